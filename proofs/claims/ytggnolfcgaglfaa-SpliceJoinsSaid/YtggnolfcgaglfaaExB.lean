/- Objects that have codes; what is lent; what an operation does, told without the frame that it stands in. -/
import Derived.Test.YtggnolfcgaglfaaExA
set_option linter.unusedVariables false
set_option linter.unusedSimpArgs false
namespace Go.Proofs.Ytggnolfcgaglfaa
open Go Go.RowKit

/-! ### keys of maps -/
def keyVs : (s : Sc) → s.Val → List Value
  | .i k, x => [.int k x]
  | .b, x => [.bool x]
  | .sl _, _ => [undef]
  | .pr x y, p => keyVs x p.1 ++ keyVs y p.2
  | .u, _ => []
def keyV : (s : Sc) → s.Val → Value
  | .i k, x => .int k x
  | .b, x => .bool x
  | .sl _, _ => undef
  | .pr x y, p => .agg (keyVs (.pr x y) p).toArray
  | .u, p => .agg (keyVs .u p).toArray
/-- may it be a key? -/
def Sc.key : Sc → Bool
  | .i _ => true
  | .b => true
  | .sl _ => false
  | .pr x y => x.key && y.key
  | .u => true
def eqV : (s : Sc) → s.Val → s.Val → Bool
  | .i _, x, y => @decide (@Eq Int x y) (Int.instDecidableEq x y)
  | .b, x, y => @BEq.beq Bool _ x y
  | .sl _, _, _ => false
  | .pr a c, x, y => eqV a x.1 y.1 && eqV c x.2 y.2
  | .u, _, _ => true
theorem eqV_iff : ∀ (s : Sc) (x y : s.Val), s.key = true → (eqV s x y = true ↔ x = y)
  | .i _, x, y, _ => by simp [eqV]
  | .b, x, y, _ => by simp [eqV]
  | .sl _, x, y, h => by simp [Sc.key] at h
  | .pr a c, x, y, h => by
    simp only [Sc.key, Bool.and_eq_true] at h
    obtain ⟨x1, x2⟩ := x
    obtain ⟨y1, y2⟩ := y
    simp only [eqV, Bool.and_eq_true, eqV_iff a _ _ h.1, eqV_iff c _ _ h.2]
    constructor
    · rintro ⟨rfl, rfl⟩; rfl
    · intro e; cases e; exact ⟨rfl, rfl⟩
  | .u, x, y, _ => by simp [eqV]
theorem keyVs_len : ∀ (s : Sc) (x y : s.Val), (keyVs s x).length = (keyVs s y).length
  | .i _, _, _ => rfl
  | .b, _, _ => rfl
  | .sl _, _, _ => rfl
  | .pr a c, x, y => by simp [keyVs, keyVs_len a x.1 y.1, keyVs_len c x.2 y.2]
  | .u, _, _ => rfl
theorem keyVs_inj : ∀ (s : Sc) (x y : s.Val), s.key = true → keyVs s x = keyVs s y → x = y
  | .i _, x, y, _, h => by simp [keyVs] at h; exact h
  | .b, x, y, _, h => by simp [keyVs] at h; exact h
  | .sl _, _, _, h, _ => by simp [Sc.key] at h
  | .pr a c, x, y, h, e => by
    simp only [Sc.key, Bool.and_eq_true] at h
    simp only [keyVs] at e
    obtain ⟨e1, e2⟩ := List.append_inj e (keyVs_len a _ _)
    exact Prod.ext (keyVs_inj a _ _ h.1 e1) (keyVs_inj c _ _ h.2 e2)
  | .u, _, _, _, _ => rfl
theorem keyV_inj (s : Sc) (x y : s.Val) (h : s.key = true) (e : keyV s x = keyV s y) : x = y := by
  cases s with
  | i k => simp [keyV] at e; exact e
  | b => simp [keyV] at e; exact e
  | sl r => simp [Sc.key] at h
  | pr a c =>
    simp only [keyV, Value.agg.injEq] at e
    exact keyVs_inj _ _ _ h (by simpa using e)
  | u => rfl
/-- what a map holds at a key -/
def mget (s : Sc) {β : Type} : List (s.Val × β) → s.Val → Option β
  | [], _ => none
  | p :: es, x => cond (eqV s p.1 x) (some p.2) (mget s es x)
def mput (s : Sc) {β : Type} : List (s.Val × β) → s.Val → β → List (s.Val × β)
  | [], x, v => [(x, v)]
  | p :: es, x, v => cond (eqV s p.1 x) ((p.1, v) :: es) (p :: mput s es x v)
def encM (kc vc : Sc) (es : List (kc.Val × vc.Val)) : List (Value × AV) := es.map fun p => (keyV kc p.1, enc (valE vc p.2))
theorem alook_enc {kc vc : Sc} (hk : kc.key = true) : ∀ (es : List (kc.Val × vc.Val)) (x : kc.Val), alook (encM kc vc es) (keyV kc x) = (mget kc es x).map fun v => enc (valE vc v)
  | [], _ => rfl
  | p :: es, x => by
    rw [encM, List.map_cons, alook, mget]
    by_cases h : p.1 = x
    · rw [if_pos (by rw [h]), (eqV_iff kc _ _ hk).2 h]; rfl
    · rw [if_neg (fun e => h (keyV_inj kc _ _ hk e))]
      have : eqV kc p.1 x = false := by
        cases he : eqV kc p.1 x with
        | false => rfl
        | true => exact absurd ((eqV_iff kc _ _ hk).1 he) h
      rw [this]
      exact alook_enc hk es x
theorem aput_enc {kc vc : Sc} (hk : kc.key = true) : ∀ (es : List (kc.Val × vc.Val)) (x : kc.Val) (v : vc.Val), aput (encM kc vc es) (keyV kc x) (enc (valE vc v)) = encM kc vc (mput kc es x v)
  | [], _, _ => rfl
  | p :: es, x, v => by
    rw [encM, List.map_cons, aput, mput]
    by_cases h : p.1 = x
    · rw [if_pos (by rw [h]), (eqV_iff kc _ _ hk).2 h]; rfl
    · rw [if_neg (fun e => h (keyV_inj kc _ _ hk e))]
      have : eqV kc p.1 x = false := by
        cases he : eqV kc p.1 x with
        | false => rfl
        | true => exact absurd ((eqV_iff kc _ _ hk).1 he) h
      rw [this]
      have ih := aput_enc hk es x v
      rw [encM] at ih
      rw [ih]; rfl

/-! ### objects -/
inductive EOb where
  | box (t : TypeId) (cs : List EV)
  | arr (t : TypeId) (r : Sc) (xs : List r.Val) (wr : Bool)
  | mp (d : TypeDesc) (kc vc : Sc) (es : List (kc.Val × vc.Val))
  | nr (t : TypeId) (r : Sc) (xs : List (List r.Val)) (ho : Option (Int × Option Nat))
/-- a cell that is nil, if nothing is in it -/
def nrA (r : Sc) : List r.Val → AV
  | [] => .sl true 0 []
  | x :: l => .sl false r.w (List.map (encC r) (x :: l))
def nrH : Option Nat → AV
  | some j => .ow j
  | none => .un
/-- a row of slices; one of its cells may be a slice of the call's own -/
def nrC (r : Sc) (xs : List (List r.Val)) : Option (Int × Option Nat) → List AV
  | none => xs.map (nrA r)
  | some (i, p) => (xs.map (nrA r)).set i.toNat (nrH p)
abbrev EHp := List (Nat × Option EOb)
def encO : EOb → Ob
  | .box t cs => .box t (encL cs)
  | .arr t r xs wr => .arr t r.w (List.map (encC r) xs) wr
  | .mp d kc vc es => .mp d (encM kc vc es)
  | .nr t r xs ho => .nr t (nrC r xs ho)
def encH : EHp → Hp
  | [] => []
  | (k, o) :: h => (k, o.map encO) :: encH h
def encT : List (Nat × EV) → List (Nat × AV)
  | [] => []
  | (i, c) :: t => (i, enc c) :: encT t
def eget : List (Nat × EV) → Nat → EV
  | [], _ => .un
  | (j, c) :: t, i => cond (Nat.beq i j) c (eget t i)
def ehget : EHp → Nat → Option EOb
  | [], _ => none
  | (j, o) :: t, i => cond (Nat.beq i j) o (ehget t i)
theorem beq_no {i j : Nat} (h : ¬ i = j) : Nat.beq i j = false := by
  cases hb : Nat.beq i j with
  | false => rfl
  | true => exact absurd (Nat.eq_of_beq_eq_true hb) h
theorem tget_enc : ∀ (t : List (Nat × EV)) (i : Nat), tget (encT t) i = enc (eget t i)
  | [], _ => rfl
  | (j, c) :: t, i => by
    simp only [encT, tget, eget]
    by_cases h : i = j
    · rw [if_pos h, h, Nat.beq_refl]; rfl
    · rw [if_neg h, (beq_no h), tget_enc t i]; rfl
theorem hget_enc : ∀ (t : EHp) (i : Nat), hget (encH t) i = (ehget t i).map encO
  | [], _ => rfl
  | (j, c) :: t, i => by
    simp only [encH, hget, ehget]
    by_cases h : i = j
    · rw [if_pos h, h, Nat.beq_refl]; rfl
    · rw [if_neg h, (beq_no h), hget_enc t i]; rfl
theorem encH_append : ∀ a c : EHp, encH (a ++ c) = encH a ++ encH c
  | [], c => rfl
  | (k, o) :: a, c => by rw [List.cons_append, encH, encH_append a c]; rfl
theorem encT_append : ∀ a c : List (Nat × EV), encT (a ++ c) = encT a ++ encT c
  | [], c => rfl
  | (k, o) :: a, c => by rw [List.cons_append, encT, encT_append a c]; rfl

/-! ### what is lent -/
def HC (hg : Nat → Option EOb) (us : List Nat) (h : Hp) : Prop :=
  ∀ k, us.contains k = true → ∀ t r xs wr, hg k = some (.arr t r xs wr) → ∃ wr', hget h k = some (.arr t r.w (List.map (encC r) xs) wr')
def OsOk (hg : Nat → Option EOb) (os : EHp) : Prop := ∀ k o, (k, o) ∈ os → ∃ t r xs wr, hg k = some (.arr t r xs wr) ∧ o = some (.arr t r xs false)
theorem ehget_mem : ∀ {os : EHp} {k : Nat}, os.any (fun p => p.1 == k) = true → ∃ o, (k, o) ∈ os ∧ hget (encH os) k = o.map encO
  | [], k, h => by simp at h
  | (j, o) :: os, k, h => by
    by_cases hk : k = j
    · subst hk; exact ⟨o, by simp, by simp [encH, hget]⟩
    · simp only [List.any_cons, Bool.or_eq_true] at h
      rcases h with h | h
      · exact absurd (by simpa using h) (fun e : j = k => hk e.symm)
      · obtain ⟨o', h1, h2⟩ := ehget_mem h
        exact ⟨o', List.mem_cons_of_mem _ h1, by rw [encH, hget, if_neg hk]; exact h2⟩
theorem any_enc (os : EHp) (k : Nat) : (encH os).any (fun p => p.1 == k) = os.any (fun p => p.1 == k) := by
  induction os with
  | nil => rfl
  | cons p os ih => obtain ⟨j, o⟩ := p; simp only [encH, List.any_cons, ih]
theorem HC.put {hg : Nat → Option EOb} {us us' : List Nat} {h : Hp} {os : EHp} (hh : HC hg us h) (ho : OsOk hg os) (hu : ∀ k, us'.contains k = true → us.contains k = true) : HC hg us' (encH os ++ h) := by
  intro k hk t r xs wr hg'
  rw [hget_append, any_enc]
  split
  · rename_i ha
    obtain ⟨o, hm, he⟩ := ehget_mem ha
    obtain ⟨t2, r2, xs2, wr2, h1, h2⟩ := ho _ _ hm
    rw [hg'] at h1
    cases h1
    subst h2
    exact ⟨false, he⟩
  · exact hh k (hu k hk) t r xs wr hg'
def lendS (hg : Nat → Option EOb) (s : Sc) : EV → Option (s.Val × EHp × List Nat)
  | .ow k => match hg k with
    | some (.arr t r xs wr) => match castS (.sl r) s xs with
      | some y => some (y, [(k, some (.arr t r xs false))], [k])
      | none => none
    | _ => none
  | c => match asS s c with
    | some y => some (y, [], [])
    | none => none
theorem fz_encS (s : Sc) (x : s.Val) : (encS s x).fz = true := by
  cases s <;> rfl
theorem fz_asS {s : Sc} {c : EV} {x : s.Val} (h : asS s c = some x) : (enc c).fz = true := by
  cases c with
  | sc s' y => exact fz_encS _ _
  | nil => rfl
  | ts r xs => rfl
  | _ => simp [asS] at h
theorem lendC_fz {h : Hp} {c : AV} (hf : c.fz = true) : lendC h c = some (h, c) := by
  cases c <;> first | (simp [AV.fz] at hf; done) | (simp only [lendC, hf, if_true])
theorem lendA_fz {h : Hp} {c : AV} (hf : c.fz = true) : lendA h c = some (h, c) := by
  cases c <;> first | (simp [AV.fz] at hf; done) | (rw [lendA]; exact lendC_fz hf; intro cs h; cases h)
theorem lendA_C {h : Hp} {c : AV} {r : Hp × AV} (hl : lendC h c = some r) : lendA h c = some r := by
  cases c <;> first | (simp [lendC, AV.fz] at hl; done) | (rw [lendA]; exact hl; intro cs h; cases h)
theorem lendS_ok {hg : Nat → Option EOb} {h : Hp} {s : Sc} {c : EV} {x : s.Val} {os : EHp} {us us' : List Nat} (hl : lendS hg s c = some (x, os, us)) (hh : HC hg us' h) (hu : ∀ k, us.contains k = true → us'.contains k = true) :
    (∃ c1, lendC h (enc c) = some (encH os ++ h, c1) ∧ Wk c1 (encS s x)) ∧ OsOk hg os := by
  unfold lendS at hl
  split at hl
  · rename_i k
    split at hl
    · rename_i t r xs wr hk
      split at hl
      · rename_i y hy
        simp only [Option.some.injEq, Prod.mk.injEq] at hl
        obtain ⟨rfl, rfl, rfl⟩ := hl
        obtain ⟨rfl, rfl⟩ := castS_ok hy
        obtain ⟨wr', hw⟩ := hh k (hu k (by simp)) t r _ wr hk
        refine ⟨⟨.sl false r.w (List.map (encC r) _), ?_, Wk.refl _⟩, ?_⟩
        · simp only [enc, lendC, hw]; rfl
        · intro k' o hm
          simp only [List.mem_singleton, Prod.mk.injEq] at hm
          obtain ⟨rfl, rfl⟩ := hm
          exact ⟨t, r, _, wr, hk, rfl⟩
      · cases hl
    · cases hl
  · split at hl
    · rename_i y hy
      simp only [Option.some.injEq, Prod.mk.injEq] at hl
      obtain ⟨rfl, rfl, rfl⟩ := hl
      exact ⟨⟨_, lendC_fz (fz_asS hy), asS_ok hy⟩, fun k o hm => by cases hm⟩
    · cases hl
/-- cells, by a code: the value, what is left of them -/
def lendJ (hg : Nat → Option EOb) : (s : Sc) → List EV → Option (s.Val × List EV × EHp × List Nat)
  | .pr x y, cs => match lendJ hg x cs with
    | some (a, cs1, os1, us1) => match lendJ hg y cs1 with
      | some (b, cs2, os2, us2) => some ((a, b), cs2, os2 ++ os1, us1 ++ us2)
      | none => none
    | none => none
  | .u, cs => some ((), cs, [], [])
  | .i k, c :: cs => match lendS hg (.i k) c with
    | some (a, os, us) => some (a, cs, os, us)
    | none => none
  | .b, c :: cs => match lendS hg .b c with
    | some (a, os, us) => some (a, cs, os, us)
    | none => none
  | .sl r, c :: cs => match lendS hg (.sl r) c with
    | some (a, os, us) => some (a, cs, os, us)
    | none => none
  | _, [] => none
theorem lendCs_append {h h1 h2 : Hp} {cs ds cs1 ds1 : List AV} (a : lendCs h cs = some (h1, cs1)) (b : lendCs h1 ds = some (h2, ds1)) : lendCs h (cs ++ ds) = some (h2, cs1 ++ ds1) := by
  induction cs generalizing h cs1 with
  | nil => simp only [lendCs, Option.some.injEq, Prod.mk.injEq] at a; obtain ⟨rfl, rfl⟩ := a; simpa using b
  | cons c cs ih =>
    simp only [lendCs] at a
    split at a
    · rename_i h3 c1 hc
      split at a
      · rename_i h4 cs2 hcs
        simp only [Option.some.injEq, Prod.mk.injEq] at a
        obtain ⟨rfl, rfl⟩ := a
        rw [List.cons_append, lendCs, hc]
        simp only [ih hcs, List.cons_append]
      · cases a
    · cases a
theorem lendCs_one {h h1 : Hp} {c c1 : AV} (a : lendC h c = some (h1, c1)) : lendCs h [c] = some (h1, [c1]) := by
  simp only [lendCs, a]
theorem lendJ_ok {hg : Nat → Option EOb} : ∀ (s : Sc) {h : Hp} {cs rest : List EV} {x : s.Val} {os : EHp} {us us' : List Nat} (hl : lendJ hg s cs = some (x, rest, os, us)) (hh : HC hg us' h) (hu : ∀ k, us.contains k = true → us'.contains k = true),
    (∃ cs0 cs1, cs = cs0 ++ rest ∧ lendCs h (encL cs0) = some (encH os ++ h, cs1) ∧ WkL cs1 (encC s x)) ∧ OsOk hg os
  | .pr a c, h, cs, rest, x, os, us, us', hl, hh, hu => by
    simp only [lendJ] at hl
    split at hl
    · rename_i va cs1 os1 us1 ha
      split at hl
      · rename_i vb cs2 os2 us2 hb
        simp only [Option.some.injEq, Prod.mk.injEq] at hl
        obtain ⟨rfl, rfl, rfl, rfl⟩ := hl
        obtain ⟨⟨p0, p1, rfl, hp, wp⟩, op⟩ := lendJ_ok a ha hh (fun k hk => hu k (by simp at hk ⊢; exact .inl hk))
        obtain ⟨⟨q0, q1, rfl, hq, wq⟩, oq⟩ := lendJ_ok c hb (hh.put op fun k h => h) (fun k hk => hu k (by simp at hk ⊢; exact .inr hk))
        refine ⟨⟨p0 ++ q0, p1 ++ q1, by simp, ?_, wp.append wq⟩, fun k o hm => ?_⟩
        · rw [encL_append, encH_append, List.append_assoc]
          exact lendCs_append hp hq
        · rcases List.mem_append.1 hm with hm | hm
          · exact oq k o hm
          · exact op k o hm
      · cases hl
    · cases hl
  | .u, h, cs, rest, x, os, us, us', hl, hh, hu => by
    simp only [lendJ, Option.some.injEq, Prod.mk.injEq] at hl
    obtain ⟨-, rfl, rfl, rfl⟩ := hl
    exact ⟨⟨[], [], rfl, rfl, .nil⟩, fun k o hm => by cases hm⟩
  | .i k, h, [], rest, x, os, us, us', hl, hh, hu => by simp [lendJ] at hl
  | .b, h, [], rest, x, os, us, us', hl, hh, hu => by simp [lendJ] at hl
  | .sl r, h, [], rest, x, os, us, us', hl, hh, hu => by simp [lendJ] at hl
  | .i k, h, c :: cs, rest, x, os, us, us', hl, hh, hu => by
    simp only [lendJ] at hl
    split at hl
    · rename_i a os1 us1 ha
      simp only [Option.some.injEq, Prod.mk.injEq] at hl
      obtain ⟨rfl, rfl, rfl, rfl⟩ := hl
      obtain ⟨⟨c1, h1, w1⟩, o1⟩ := lendS_ok ha hh hu
      exact ⟨⟨[c], [c1], rfl, lendCs_one h1, .cons w1 .nil⟩, o1⟩
    · cases hl
  | .b, h, c :: cs, rest, x, os, us, us', hl, hh, hu => by
    simp only [lendJ] at hl
    split at hl
    · rename_i a os1 us1 ha
      simp only [Option.some.injEq, Prod.mk.injEq] at hl
      obtain ⟨rfl, rfl, rfl, rfl⟩ := hl
      obtain ⟨⟨c1, h1, w1⟩, o1⟩ := lendS_ok ha hh hu
      exact ⟨⟨[c], [c1], rfl, lendCs_one h1, .cons w1 .nil⟩, o1⟩
    · cases hl
  | .sl r, h, c :: cs, rest, x, os, us, us', hl, hh, hu => by
    simp only [lendJ] at hl
    split at hl
    · rename_i a os1 us1 ha
      simp only [Option.some.injEq, Prod.mk.injEq] at hl
      obtain ⟨rfl, rfl, rfl, rfl⟩ := hl
      obtain ⟨⟨c1, h1, w1⟩, o1⟩ := lendS_ok ha hh hu
      exact ⟨⟨[c], [c1], rfl, lendCs_one h1, .cons w1 .nil⟩, o1⟩
    · cases hl
/-- a value (of one cell or of several), by a code -/
def lendV (hg : Nat → Option EOb) (s : Sc) : EV → Option (s.Val × EHp × List Nat)
  | .ag cs => match s with
    | .pr x y => match lendJ hg (.pr x y) cs with
      | some (a, [], os, us) => some (a, os, us)
      | _ => none
    | .u => match lendJ hg .u cs with
      | some (a, [], os, us) => some (a, os, us)
      | _ => none
    | _ => none
  | c => match s with
    | .pr _ _ => none
    | .u => none
    | .i k => lendS hg (.i k) c
    | .b => lendS hg .b c
    | .sl r => lendS hg (.sl r) c
theorem lendV_ok {hg : Nat → Option EOb} {h : Hp} {s : Sc} {c : EV} {x : s.Val} {os : EHp} {us us' : List Nat} (hl : lendV hg s c = some (x, os, us)) (hh : HC hg us' h) (hu : ∀ k, us.contains k = true → us'.contains k = true) :
    (∃ c1, lendA h (enc c) = some (encH os ++ h, c1) ∧ Wk c1 (enc (valE s x))) ∧ OsOk hg os := by
  unfold lendV at hl
  split at hl
  · rename_i cs
    split at hl
    · split at hl
      · rename_i y os1 us1 hj
        simp only [Option.some.injEq, Prod.mk.injEq] at hl
        obtain ⟨rfl, rfl, rfl⟩ := hl
        obtain ⟨⟨cs0, cs1, h0, h1, h2⟩, h3⟩ := lendJ_ok _ hj hh hu
        simp only [List.append_nil] at h0
        subst h0
        refine ⟨⟨.ag cs1, ?_, ?_⟩, h3⟩
        · simp only [enc, lendA, h1]
        · simp only [valE, enc]
          rw [encL_split]
          exact Wk.ag h2
      · cases hl
    · split at hl
      · rename_i y os1 us1 hj
        simp only [Option.some.injEq, Prod.mk.injEq] at hl
        obtain ⟨-, rfl, rfl⟩ := hl
        obtain ⟨⟨cs0, cs1, h0, h1, h2⟩, h3⟩ := lendJ_ok _ hj hh hu
        simp only [List.append_nil] at h0
        subst h0
        refine ⟨⟨.ag cs1, ?_, ?_⟩, h3⟩
        · simp only [enc, lendA, h1]
        · simp only [valE, enc]
          exact Wk.ag h2
      · cases hl
    · cases hl
  · split at hl
    · cases hl
    · cases hl
    · obtain ⟨⟨c1, h1, h2⟩, h3⟩ := lendS_ok hl hh hu
      exact ⟨⟨c1, lendA_C h1, h2⟩, h3⟩
    · obtain ⟨⟨c1, h1, h2⟩, h3⟩ := lendS_ok hl hh hu
      exact ⟨⟨c1, lendA_C h1, h2⟩, h3⟩
    · obtain ⟨⟨c1, h1, h2⟩, h3⟩ := lendS_ok hl hh hu
      exact ⟨⟨c1, lendA_C h1, h2⟩, h3⟩
end Go.Proofs.Ytggnolfcgaglfaa
