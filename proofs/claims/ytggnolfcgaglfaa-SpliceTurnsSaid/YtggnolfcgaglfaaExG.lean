/- Contracts, calls; one operation. -/
import Derived.Test.YtggnolfcgaglfaaExF
import Derived.Test.YtggnolfcgaglfaaSymV
set_option linter.unusedVariables false
set_option linter.unusedSimpArgs false
namespace Go.Proofs.Ytggnolfcgaglfaa
open Go Go.RowKit
noncomputable section

/-! ### tuples of values of codes -/
@[reducible] def Tup : List Sc → Type
  | [] => Unit
  | [s] => s.Val
  | s :: t :: r => s.Val × Tup (t :: r)
def splitT : (cs : List Sc) → Tup cs → List EV
  | [], _ => []
  | [s], x => [.sc s x]
  | s :: t :: r, x => .sc s x.1 :: splitT (t :: r) x.2
def joinT : (cs : List Sc) → List EV → Option (Tup cs)
  | [], [] => some ()
  | [], _ :: _ => none
  | [s], c :: cs => match c, cs with
    | .sc s' x, [] => castS s' s x
    | _, _ => none
  | s :: t :: r, c :: cs => match c with
    | .sc s' x => match castS s' s x with
      | some a => match joinT (t :: r) cs with
        | some b => some (a, b)
        | none => none
      | none => none
    | _ => none
  | _ :: _, [] => none
theorem joinT_ok : ∀ {cs : List Sc} {l : List EV} {x : Tup cs}, joinT cs l = some x → l = splitT cs x
  | [], [], x, h => rfl
  | [], _ :: _, x, h => by simp [joinT] at h
  | [s], [], x, h => by simp [joinT] at h
  | [s], c :: cs, x, h => by
    simp only [joinT] at h
    split at h
    · obtain ⟨rfl, rfl⟩ := castS_ok h
      rfl
    · cases h
  | s :: t :: r, [], x, h => by simp [joinT] at h
  | s :: t :: r, c :: cs, x, h => by
    simp only [joinT] at h
    split at h
    · split at h
      · rename_i a ha
        split at h
        · rename_i b hb
          obtain ⟨rfl, rfl⟩ := castS_ok ha
          have := joinT_ok hb
          cases h
          rw [this]; rfl
        · cases h
      · cases h
    · cases h

/-! ### patterns -/
/-- a value: of a code; this one; a struct; several -/
inductive PV where
  | h (s : Sc)
  | t (r : Sc)
  | k (c : EV)
  | ag (l : List PV)
  | tu (l : List PV)
  | fp (l : List PV)
  | cl (fn : Fn) (fs cs : List PV)
def tightE : EV → EV
  | .sc (.sl r) xs => .ts r xs
  | _ => .un
mutual
def fillP : PV → List EV → EV × List EV
  | .h _, cs => (cs.headD .un, cs.tail)
  | .t _, cs => (tightE (cs.headD .un), cs.tail)
  | .k c, cs => (c, cs)
  | .ag l, cs => (.ag (fillPs l cs).1, (fillPs l cs).2)
  | .tu l, cs => (.tu (fillPs l cs).1, (fillPs l cs).2)
  | .fp l, cs => (.fp (fillPs l cs).1, (fillPs l cs).2)
  | .cl fn fs xs, cs => (.cl fn (fillPs fs cs).1 (fillPs xs (fillPs fs cs).2).1, (fillPs xs (fillPs fs cs).2).2)
def fillPs : List PV → List EV → List EV × List EV
  | [], cs => ([], cs)
  | p :: ps, cs => ((fillP p cs).1 :: (fillPs ps (fillP p cs).2).1, (fillPs ps (fillP p cs).2).2)
end
inductive PO where
  | box (t : TypeId) (l : List PV)
  | arr (t : TypeId) (r : Sc) (wr : Bool)
  | mp (d : TypeDesc) (kc vc : Sc)
  | nr (t : TypeId) (r : Sc) (ho : Option (Nat × Nat))
def arrE (t : TypeId) (r : Sc) (wr : Bool) : EV → Option EOb
  | .sc s x => match castS s (.sl r) x with
    | some xs => some (.arr t r xs wr)
    | none => none
  | _ => none
def mpE (d : TypeDesc) (kc vc : Sc) : EV → Option EOb
  | .sc s x => match castS s (.sl (.pr kc vc)) x with
    | some xs => some (.mp d kc vc xs)
    | none => none
  | _ => none
def nrE (t : TypeId) (r : Sc) : EV → Option EOb
  | .sc s x => match castS s (.sl (.sl r)) x with
    | some xs => some (.nr t r xs none)
    | none => none
  | _ => none
def nrE2 (t : TypeId) (r : Sc) (p : Nat) : EV → EV → Option EOb
  | .sc s x, .sc s2 y => match castS s (.sl (.sl r)) x with
    | some xs => match castS s2 (.i .i64) y with
      | some i => some (.nr t r xs (some (i, some p)))
      | none => none
    | none => none
  | _, _ => none
def fillO : PO → List EV → Option EOb × List EV
  | .box t l, cs => (some (.box t (fillPs l cs).1), (fillPs l cs).2)
  | .arr t r wr, cs => (arrE t r wr (cs.headD .un), cs.tail)
  | .mp d kc vc, cs => (mpE d kc vc (cs.headD .un), cs.tail)
  | .nr t r none, cs => (nrE t r (cs.headD .un), cs.tail)
  | .nr t r (some (_, p)), cs => (nrE2 t r p (cs.headD .un) (cs.tail.headD .un), cs.tail.tail)
def fillH : List (Nat × PO) → List EV → EHp
  | [], _ => []
  | (k, o) :: h, cs => (k, (fillO o cs).1) :: fillH h (fillO o cs).2

/-! ### contracts -/
/-- a contract: what is handed (values by their forms; objects, under great names), what comes back. own: does it make or turn objects? pu: does it keep nothing of what it reads? -/
structure Ctr where
  f : FuncId
  ps : List PV
  hs : List (Nat × PO)
  cs : List Sc
  α : Type
  M : Tup cs → Option α
  el : α → (R : Type) → (EV → EHp → Option R) → Option R
  own : Bool
  pu : Bool
def Ctr.as (c : Ctr) (x : Tup c.cs) : List EV := (fillPs c.ps (splitT c.cs x)).1
def Ctr.H0 (c : Ctr) (x : Tup c.cs) : EHp := fillH c.hs (fillPs c.ps (splitT c.cs x)).2
/-- no slices in it -/
def Sc.ns : Sc → Bool
  | .sl _ => false
  | .pr x y => x.ns && y.ns
  | .i _ => true
  | .b => true
  | .u => true
mutual
def EV.pu : EV → Bool
  | .un => true
  | .sc s x => match s with
    | .sl _ => false
    | _ => true
  | .nil => true
  | .ts r xs => false
  | .v x => true
  | .ow k => true
  | .pt k o => true
  | .pe k i sz o => true
  | .sw k l n sz => true
  | .mp k => true
  | .fp cs => false
  | .ag cs => EV.puL cs
  | .tu cs => EV.puL cs
  | .cl fn fs cs => EV.puL fs && EV.puL cs
def EV.puL : List EV → Bool
  | [] => true
  | c :: cs => EV.pu c && EV.puL cs
end
def EOb.pu : EOb → Bool
  | .box t cs => EV.puL cs
  | .arr t r xs wr => r.ns
  | .mp d kc vc es => vc.ns
  | .nr _ _ _ _ => false
def puH (h : EHp) : Bool := h.all fun p => match p.2 with
  | some o => o.pu
  | none => true
def Ctr.ok (P : Program) (c : Ctr) : Prop :=
  (c.own = false → c.hs = []) ∧ ∀ x y, c.M x = some y → ∃ e H, (∀ (R : Type) (k : EV → EHp → Option R), c.el y R k = k e H) ∧ (c.own = false → H = []) ∧ (c.pu = true → e.pu = true ∧ puH H = true) ∧
    RCX P c.f (encH (c.H0 x)) (encL (c.as x)) (encH H) (enc e)
/-! names, turned -/
mutual
def renE (π : Nat → Nat) : EV → EV
  | .un => .un
  | .sc s x => .sc s x
  | .nil => .nil
  | .ts r xs => .ts r xs
  | .v x => .v x
  | .ow k => .ow (π k)
  | .pt k o => .pt (π k) o
  | .pe k i sz o => .pe (π k) i sz o
  | .sw k l n sz => .sw (π k) l n sz
  | .mp k => .mp (π k)
  | .fp cs => .fp cs
  | .ag cs => .ag (renEs π cs)
  | .tu cs => .tu (renEs π cs)
  | .cl fn fs cs => .cl fn (renEs π fs) (renEs π cs)
def renEs (π : Nat → Nat) : List EV → List EV
  | [] => []
  | c :: cs => renE π c :: renEs π cs
end
mutual
theorem enc_ren (π : Nat → Nat) : ∀ c : EV, enc (renE π c) = (enc c).ren π
  | .un => rfl
  | .sc s x => by cases s <;> rfl
  | .nil => rfl
  | .ts r xs => rfl
  | .v x => rfl
  | .ow k => rfl
  | .pt k o => rfl
  | .pe k i sz o => rfl
  | .sw k l n sz => rfl
  | .mp k => rfl
  | .fp cs => rfl
  | .ag cs => by simp only [renE, enc, AV.ren, encL_ren π cs]
  | .tu cs => by simp only [renE, enc, AV.ren, encL_ren π cs]
  | .cl fn fs cs => by simp only [renE, enc, AV.ren, encL_ren π cs, encL_ren π fs]
theorem encL_ren (π : Nat → Nat) : ∀ cs : List EV, encL (renEs π cs) = AV.renL π (encL cs)
  | [] => rfl
  | c :: cs => by simp only [renEs, encL, AV.renL, enc_ren π c, encL_ren π cs]
end
def renHo (π : Nat → Nat) : Option (Int × Option Nat) → Option (Int × Option Nat)
  | some (i, some j) => some (i, some (π j))
  | o => o
def renO (π : Nat → Nat) : EOb → EOb
  | .box t cs => .box t (renEs π cs)
  | .arr t r xs wr => .arr t r xs wr
  | .mp d kc vc es => .mp d kc vc es
  | .nr t r xs ho => .nr t r xs (renHo π ho)
theorem nrA_ren (π : Nat → Nat) (r : Sc) (x : List r.Val) : (nrA r x).ren π = nrA r x := by cases x <;> rfl
theorem nrC_ren (π : Nat → Nat) (r : Sc) (xs : List (List r.Val)) (ho : Option (Int × Option Nat)) : nrC r xs (renHo π ho) = AV.renL π (nrC r xs ho) := by
  have h0 : (xs.map (nrA r)).map (AV.ren π) = xs.map (nrA r) := by
    rw [List.map_map]
    exact List.map_congr_left fun x _ => nrA_ren π r x
  rw [renL_map]
  match ho with
  | none => exact h0.symm
  | some (i, none) => simp only [renHo, nrC, List.map_set, h0]; rfl
  | some (i, some j) => simp only [renHo, nrC, List.map_set, h0]; rfl
theorem encO_ren (π : Nat → Nat) (o : EOb) : encO (renO π o) = (encO o).ren π := by
  cases o with
  | box t cs => simp only [renO, encO, Ob.ren, encL_ren]
  | arr => rfl
  | mp => rfl
  | nr t r xs ho => simp only [renO, encO, Ob.ren, nrC_ren]
def renEH (π : Nat → Nat) : EHp → EHp
  | [] => []
  | (k, o) :: h => (π k, match o with
    | some o => some (renO π o)
    | none => none) :: renEH π h
theorem encH_ren (π : Nat → Nat) : ∀ h : EHp, encH (renEH π h) = hren π (encH h)
  | [] => rfl
  | (k, o) :: h => by
    have : ∀ o : EOb, encO (renO π o) = (encO o).ren π := encO_ren π
    cases o with
    | none => simp only [renEH, encH, hren, Option.map, encH_ren π h]
    | some o => simp only [renEH, encH, hren, Option.map, encH_ren π h, this]

/-! ### a callee's forms, in the caller's names -/
mutual
def renP (π : Nat → Nat) : PV → PV
  | .h s => .h s
  | .t r => .t r
  | .k c => .k (renE π c)
  | .ag l => .ag (renPs π l)
  | .tu l => .tu (renPs π l)
  | .fp l => .fp l
  | .cl fn fs cs => .cl fn (renPs π fs) (renPs π cs)
def renPs (π : Nat → Nat) : List PV → List PV
  | [] => []
  | p :: ps => renP π p :: renPs π ps
end
def renPO (π : Nat → Nat) : PO → PO
  | .box t l => .box t (renPs π l)
  | .arr t r wr => .arr t r wr
  | .mp d kc vc => .mp d kc vc
  | .nr t r none => .nr t r none
  | .nr t r (some (s, p)) => .nr t r (some (s, π p))
/-- who goes with whom -/
def bindD (p k : Nat) (D : List (Nat × Nat)) : List (Nat × Nat) := cond (Nat.ble 4294967296 p) (match asc D p with
  | some _ => D
  | none => D ++ [(p, k)]) D
mutual
def bindP : PV → EV → List (Nat × Nat) → List (Nat × Nat)
  | .h _, _, D => D
  | .t _, _, D => D
  | .k c0, c, D => match c0, c with
    | .ow p, .ow k => bindD p k D
    | .pt p _, .pt k _ => bindD p k D
    | .mp p, .mp k => bindD p k D
    | _, _ => D
  | .ag l, c, D => match c with
    | .ag cs => bindPs l cs D
    | _ => D
  | .tu _, _, D => D
  | .fp _, _, D => D
  | .cl _ fs xs, c, D => match c with
    | .cl _ fs' xs' => bindPs xs xs' (bindPs fs fs' D)
    | _ => D
def bindPs : List PV → List EV → List (Nat × Nat) → List (Nat × Nat)
  | [], _, D => D
  | p :: ps, cs, D => match cs with
    | [] => D
    | c :: cs => bindPs ps cs (bindP p c D)
end
def bindH (hg : Nat → Option EOb) : List (Nat × PO) → List (Nat × Nat) → List (Nat × Nat)
  | [], D => D
  | (p, po) :: hs, D => bindH hg hs (match po with
    | .box _ l => match asc D p with
      | some k => match hg k with
        | some (.box _ cs) => bindPs l cs D
        | _ => D
      | none => D
    | _ => D)
/-- a value, as it is given: an own row by what it holds -/
def giveS (hg : Nat → Option EOb) (s : Sc) : EV → Option (s.Val × List Nat)
  | .ow k => match hg k with
    | some (.arr _ r xs _) => match castS (.sl r) s xs with
      | some y => some (y, [k])
      | none => none
    | _ => none
  | c => match asS s c with
    | some y => some (y, [])
    | none => none
def sameE : EV → EV → Bool
  | .un, _ => true
  | .nil, .nil => true
  | .ow a, .ow b => Nat.beq a b
  | .pt a o, .pt b q => Nat.beq a b && Nat.beq o q
  | .mp a, .mp b => Nat.beq a b
  | .v (.func (.func f) ⟨[]⟩ ⟨[]⟩), .v (.func (.func g) ⟨[]⟩ ⟨[]⟩) => Nat.beq f g
  | _, _ => false
theorem sameE_ok {a b : EV} (h : sameE a b = true) : Wk (enc b) (enc a) := by
  unfold sameE at h
  split at h
  · exact Wk.un
  · exact Wk.refl _
  · rw [Nat.eq_of_beq_eq_true h]; exact Wk.refl _
  · simp only [Bool.and_eq_true] at h
    rw [Nat.eq_of_beq_eq_true h.1, Nat.eq_of_beq_eq_true h.2]; exact Wk.refl _
  · rw [Nat.eq_of_beq_eq_true h]; exact Wk.refl _
  · rw [Nat.eq_of_beq_eq_true h]; exact Wk.refl _
  · cases h
/-- forms that name nothing -/
def closedK : EV → Bool
  | .un => true
  | .nil => true
  | .v _ => true
  | _ => false
def closedP : PV → Bool
  | .h _ => true
  | .t _ => true
  | .k c => closedK c
  | _ => false
def fnB : Fn → Fn → Bool
  | .func f, .func g => Nat.beq f g
  | _, _ => false
theorem fnB_ok {a b : Fn} (h : fnB a b = true) : a = b := by
  unfold fnB at h
  split at h
  · rw [Nat.eq_of_beq_eq_true h]
  · cases h
theorem Wk.fp {cs cs' : List AV} (h : WkL cs cs') : Wk (.fp cs) (.fp cs') := by
  intro Rd E u hv
  cases hv with
  | fp us hl hc ha =>
    have hlr : LR (VR Rd none) cs us := ⟨hl, hc⟩
    have := h.lr hlr
    exact .fp us this.1 this.2 ha
theorem Wk.cl {fn : Fn} {fs fs' cs cs' : List AV} (h : WkL fs fs') (k : WkL cs cs') : Wk (.cl fn fs cs) (.cl fn fs' cs') := by
  intro Rd E u hv
  cases hv with
  | cl us xs hl hl2 hc hc2 =>
    have h1 : LR (VR Rd E) fs us := ⟨hl, hc⟩
    have h2 : LR (VR Rd E) cs xs := ⟨hl2, hc2⟩
    have h1 := h.lr h1
    have h2 := k.lr h2
    exact .cl us xs h1.1 h2.1 h1.2 h2.2
mutual
def valV : PV → EV → Option (List EV)
  | .h s, c => match asS s c with
    | some x => some [.sc s x]
    | none => none
  | .t r, c => match c with
    | .ts r' xs => match castS (.sl r') (.sl r) xs with
      | some ys => some [.sc (.sl r) ys]
      | none => none
    | .nil => some [.sc (.sl r) (show List r.Val from [])]
    | _ => none
  | .k c0, c => cond (sameE c0 c) (some []) none
  | .ag l, c => match c with
    | .ag cs => valVs l cs
    | _ => none
  | .tu l, c => match c with
    | .tu cs => valVs l cs
    | _ => none
  | .fp l, c => match c with
    | .fp cs => valVs l cs
    | _ => none
  | .cl fn fs xs, c => match c with
    | .cl fn' fs' xs' => cond (fnB fn fn') (match valVs fs fs' with
      | some a => match valVs xs xs' with
        | some b => some (a ++ b)
        | none => none
      | none => none) none
    | _ => none
def valVs : List PV → List EV → Option (List EV)
  | [], cs => match cs with
    | [] => some []
    | _ :: _ => none
  | p :: ps, cs => match cs with
    | [] => none
    | c :: cs => match valV p c with
      | some a => match valVs ps cs with
        | some b => some (a ++ b)
        | none => none
      | none => none
end
mutual
theorem valV_ok : ∀ (p : PV) {c : EV} {hs : List EV} (rest : List EV), valV p c = some hs → (fillP p (hs ++ rest)).2 = rest ∧ Wk (enc c) (enc (fillP p (hs ++ rest)).1)
  | .h s, c, hs, rest, h => by
    simp only [valV] at h
    split at h
    · rename_i x hx
      cases h
      exact ⟨rfl, asS_ok hx⟩
    · cases h
  | .t r, c, hs, rest, h => by
    simp only [valV] at h
    split at h
    · split at h
      · rename_i ys hy
        cases h
        obtain ⟨e, rfl⟩ := castS_ok hy
        cases e
        exact ⟨rfl, Wk.refl _⟩
      · cases h
    · cases h
      exact ⟨rfl, Wk.empty'⟩
    · cases h
  | .k c0, c, hs, rest, h => by
    simp only [valV] at h
    obtain ⟨h1, h2⟩ := cond_none h
    cases h2
    exact ⟨rfl, sameE_ok h1⟩
  | .ag l, c, hs, rest, h => by
    simp only [valV] at h
    split at h
    · obtain ⟨a, b⟩ := valVs_ok l rest h
      exact ⟨a, Wk.ag b⟩
    · cases h
  | .tu l, c, hs, rest, h => by
    simp only [valV] at h
    split at h
    · obtain ⟨a, b⟩ := valVs_ok l rest h
      exact ⟨a, Wk.tu b⟩
    · cases h
  | .fp l, c, hs, rest, h => by
    simp only [valV] at h
    split at h
    · obtain ⟨a, b⟩ := valVs_ok l rest h
      exact ⟨a, Wk.fp b⟩
    · cases h
  | .cl fn fs xs, c, hs, rest, h => by
    simp only [valV] at h
    split at h
    · obtain ⟨h1, h2⟩ := cond_none h
      obtain rfl := fnB_ok h1
      split at h2
      · rename_i a ha
        split at h2
        · rename_i b hb
          cases h2
          obtain ⟨a1, a2⟩ := valVs_ok fs (b ++ rest) ha
          obtain ⟨b1, b2⟩ := valVs_ok xs rest hb
          simp only [fillP, List.append_assoc, a1]
          exact ⟨b1, Wk.cl a2 b2⟩
        · cases h2
      · cases h2
    · cases h
theorem valVs_ok : ∀ (ps : List PV) {cs : List EV} {hs : List EV} (rest : List EV), valVs ps cs = some hs → (fillPs ps (hs ++ rest)).2 = rest ∧ WkL (encL cs) (encL (fillPs ps (hs ++ rest)).1)
  | [], cs, hs, rest, h => by
    simp only [valVs] at h
    split at h
    · cases h
      exact ⟨rfl, .nil⟩
    · cases h
  | p :: ps, cs, hs, rest, h => by
    simp only [valVs] at h
    split at h
    · cases h
    · rename_i c cs
      split at h
      · rename_i a ha
        split at h
        · rename_i b hb
          cases h
          have h1 := valV_ok p (b ++ rest) ha
          have h2 := valVs_ok ps rest hb
          simp only [fillPs, List.append_assoc, h1.1]
          exact ⟨h2.1, .cons h1.2 h2.2⟩
        · cases h
      · cases h
end
def valO : PO → EOb → Option (List EV)
  | .box t l, .box t' cs => cond (Nat.beq t t') (valVs l cs) none
  | .arr t r wr, .arr t' r' xs wr' => cond (Nat.beq t t' && (!wr || wr')) (match castS (.sl r') (.sl r) xs with
    | some ys => some [.sc (.sl r) ys]
    | none => none) none
  | .mp d kc vc, .mp d' kc' vc' es => cond (keyOk d kc && keyOk d' kc) (match castS (.sl (.pr kc' vc')) (.sl (.pr kc vc)) es with
    | some ys => some [.sc (.sl (.pr kc vc)) ys]
    | none => none) none
  | .nr t r none, .nr t' r' xs none => cond (Nat.beq t t') (match castS (.sl (.sl r')) (.sl (.sl r)) xs with
    | some ys => some [.sc (.sl (.sl r)) ys]
    | none => none) none
  | .nr t r (some (_, p)), .nr t' r' xs (some (i, some q)) => cond (Nat.beq t t' && Nat.beq p q) (match castS (.sl (.sl r')) (.sl (.sl r)) xs with
    | some ys => some [.sc (.sl (.sl r)) ys, .sc (.i .i64) i]
    | none => none) none
  | .arr t r wr, .nr t' r' xs none => cond (Nat.beq t t') (match castS (.sl (.sl r')) (.sl r) xs with
    | some ys => some [.sc (.sl r) ys]
    | none => none) none
  | _, _ => none
theorem nrA_wk (r : Sc) : ∀ xs : List (List r.Val), WkR ((xs.map (nrA r)).map fun c => [c]) (List.map (encC (.sl r)) xs)
  | [] => .nil
  | x :: xs => by
    refine .cons (.cons ?_ .nil) (nrA_wk r xs)
    cases x with
    | nil => exact Wk.empty rfl
    | cons y ys => exact Wk.refl _
theorem OR.wkBox {Rd : Nat → Nat → Value → Prop} {e : Env} {w : World} {k : Nat} {t : TypeId} {cs cs' : List AV} (hw : WkL cs cs') (h : OR Rd e w k (.box t cs)) : OR Rd e w k (.box t cs') := by
  obtain ⟨a, b, us, h1, h2, h3⟩ := h
  exact ⟨a, b, us, h1, h2, hw.lr h3⟩
theorem castS_self (s : Sc) (x : s.Val) : castS s s x = some x := by
  have key : ∀ s : Sc, Sc.eqP s s = some ⟨rfl⟩ := by
    intro s
    induction s with
    | i k => simp [Sc.eqP]
    | b => rfl
    | sl r ih => simp [Sc.eqP, ih]
    | pr a b2 iha ihb => simp [Sc.eqP, iha, ihb]
    | u => rfl
  unfold castS
  rw [key]
theorem valO_ok (p : PO) {o : EOb} {hs : List EV} (rest : List EV) (h : valO p o = some hs) : (fillO p (hs ++ rest)).2 = rest ∧ ∃ o', (fillO p (hs ++ rest)).1 = some o' ∧ ∀ Rd e w k, OR Rd e w k (encO o) → OR Rd e w k (encO o') := by
  unfold valO at h
  split at h
  · rename_i t l t' cs
    obtain ⟨h1, h2⟩ := cond_none h
    have h1 := Nat.eq_of_beq_eq_true h1
    subst h1
    obtain ⟨a, b⟩ := valVs_ok l rest h2
    exact ⟨a, _, rfl, fun Rd e w k ho => OR.wkBox b ho⟩
  · rename_i t r wr t' r' xs wr'
    obtain ⟨h1, h2⟩ := cond_none h
    simp only [Bool.and_eq_true] at h1
    have h3 := Nat.eq_of_beq_eq_true h1.1
    subst h3
    split at h2
    · rename_i ys hy
      cases h2
      obtain ⟨e1, rfl⟩ := castS_ok hy
      cases e1
      refine ⟨rfl, .arr t r xs wr, ?_, fun Rd e w k ho => ?_⟩
      · simp only [fillO, List.singleton_append, List.headD_cons, arrE, castS_self]
      · obtain ⟨a1, a2, a3, a4⟩ := ho
        refine ⟨a1, a2, fun hw => a3 ?_, a4⟩
        have := h1.2
        rw [hw] at this
        simpa using this
    · cases h2
  · rename_i d kc vc d' kc' vc' es
    obtain ⟨h1, h2⟩ := cond_none h
    simp only [Bool.and_eq_true] at h1
    have h3 := keyOk_eq h1.1 h1.2
    subst h3
    split at h2
    · rename_i ys hy
      cases h2
      obtain ⟨e1, rfl⟩ := castS_ok hy
      cases e1
      refine ⟨rfl, .mp d kc vc es, ?_, fun Rd e w k ho => ho⟩
      simp only [fillO, List.singleton_append, List.headD_cons, mpE, castS_self]
    · cases h2
  · rename_i t r t' r' xs
    obtain ⟨h1, h2⟩ := cond_none h
    have h3 := Nat.eq_of_beq_eq_true h1
    subst h3
    split at h2
    · rename_i ys hy
      cases h2
      obtain ⟨e1, rfl⟩ := castS_ok hy
      cases e1
      refine ⟨rfl, .nr t r xs none, ?_, fun Rd e w k ho => ho⟩
      simp only [fillO, List.singleton_append, List.headD_cons, nrE, castS_self]
    · cases h2
  · rename_i t r s p t' r' xs i q
    obtain ⟨h1, h2⟩ := cond_none h
    simp only [Bool.and_eq_true] at h1
    have h3 := Nat.eq_of_beq_eq_true h1.1
    have h4 := Nat.eq_of_beq_eq_true h1.2
    subst h3
    subst h4
    split at h2
    · rename_i ys hy
      cases h2
      obtain ⟨e1, rfl⟩ := castS_ok hy
      cases e1
      refine ⟨rfl, .nr t r xs (some (i, some p)), ?_, fun Rd e w k ho => ho⟩
      simp only [fillO, List.cons_append, List.nil_append, List.headD_cons, List.tail_cons, nrE2, castS_self]
    · cases h2
  · rename_i t r wr t' r' xs
    obtain ⟨h1, h2⟩ := cond_none h
    have h3 := Nat.eq_of_beq_eq_true h1
    subst h3
    split at h2
    · rename_i ys hy
      cases h2
      obtain ⟨e1, rfl⟩ := castS_ok hy
      cases e1
      refine ⟨rfl, .arr t (.sl r') xs wr, ?_, fun Rd e w k ho => ?_⟩
      · simp only [fillO, List.singleton_append, List.headD_cons, arrE, castS_self]
      · have h5 : OR Rd e w k (.nr t (xs.map (nrA r'))) := ho
        refine (h5.ofNr (fun c hc => ?_) (fun c hc => ?_) wr).wkRow (nrA_wk r' xs) (fun c hc => ?_)
        · obtain ⟨x, _, rfl⟩ := List.mem_map.1 hc
          cases x <;> rfl
        · obtain ⟨x, _, rfl⟩ := List.mem_map.1 hc
          cases x <;> rfl
        · exact enc_rows_one (.sl r') xs c hc
    · cases h2
  · cases h
mutual
def valG (hg : Nat → Option EOb) (bo : Bool) : PV → EV → Option (List EV × List Nat)
  | .h s, c => match giveS hg s c with
    | some (x, gs) => some ([.sc s x], gs)
    | none => none
  | .t r, c => match c with
    | .ts r' xs => match castS (.sl r') (.sl r) xs with
      | some ys => some ([.sc (.sl r) ys], [])
      | none => none
    | .nil => some ([.sc (.sl r) (show List r.Val from [])], [])
    | _ => none
  | .k c0, c => cond (sameE c0 c) (some ([], [])) none
  | .ag l, c => match c with
    | .ag cs => valGs hg bo l cs
    | _ => none
  | .tu _, _ => none
  | .fp l, c => match c with
    | .fp cs => cond (l.all closedP) (match valGs hg bo l cs with
      | some (vs, []) => some (vs, [])
      | _ => none) none
    | .pt k o => cond (bo && Nat.beq o 0 && l.all closedP) (match hg k with
      | some (.box t cs) => cond (!(Nat.beq t itT)) (match valGs hg bo l cs with
        | some (vs, gs) => some (vs, k :: gs)
        | none => none) none
      | _ => none) none
    | _ => none
  | .cl fn fs xs, c => match c with
    | .cl fn' fs' xs' => cond (fnB fn fn') (match valGs hg bo fs fs' with
      | some (a, g1) => match valGs hg bo xs xs' with
        | some (b, g2) => some (a ++ b, g1 ++ g2)
        | none => none
      | none => none) none
    | _ => none
def valGs (hg : Nat → Option EOb) (bo : Bool) : List PV → List EV → Option (List EV × List Nat)
  | [], cs => match cs with
    | [] => some ([], [])
    | _ :: _ => none
  | p :: ps, cs => match cs with
    | [] => none
    | c :: cs => match valG hg bo p c with
      | some (a, g1) => match valGs hg bo ps cs with
        | some (b, g2) => some (a ++ b, g1 ++ g2)
        | none => none
      | none => none
end
/-! ### what is given holds -/
def Vals (cs : List EV) : Prop := ∀ c ∈ cs, ∃ s x, c = EV.sc s x
theorem splitT_vals : ∀ (cs : List Sc) (x : Tup cs), Vals (splitT cs x)
  | [], _ => fun c h => by cases h
  | [s], x => fun c h => by simp only [splitT, List.mem_singleton] at h; exact ⟨_, _, h⟩
  | s :: t :: r, x => fun c h => by
    simp only [splitT] at h
    rcases List.mem_cons.1 h with h | h
    · exact ⟨_, _, h⟩
    · exact splitT_vals (t :: r) x.2 c h
theorem Vals.tail {cs : List EV} (h : Vals cs) : Vals cs.tail := fun c hc => h c (List.mem_of_mem_tail hc)
theorem ren_head (π : Nat → Nat) {cs : List EV} (h : Vals cs) : renE π (cs.headD .un) = cs.headD .un := by
  cases cs with
  | nil => rfl
  | cons c cs => obtain ⟨s, x, rfl⟩ := h c (by simp); rfl
theorem ren_tight (π : Nat → Nat) {cs : List EV} (h : Vals cs) : renE π (tightE (cs.headD .un)) = tightE (cs.headD .un) := by
  cases cs with
  | nil => rfl
  | cons c cs =>
    obtain ⟨s, x, rfl⟩ := h c (by simp)
    cases s <;> rfl
mutual
theorem fillP_ren (π : Nat → Nat) : ∀ (p : PV) {cs : List EV}, Vals cs → (fillP (renP π p) cs).1 = renE π (fillP p cs).1 ∧ (fillP (renP π p) cs).2 = (fillP p cs).2 ∧ Vals (fillP p cs).2
  | .h s, cs, h => ⟨(ren_head π h).symm, rfl, h.tail⟩
  | .t r, cs, h => ⟨(ren_tight π h).symm, rfl, h.tail⟩
  | .k c, cs, h => ⟨rfl, rfl, h⟩
  | .ag l, cs, h => by
    obtain ⟨a, b, c⟩ := fillPs_ren π l h
    exact ⟨by simp only [renP, fillP, renE, a], by simp only [renP, fillP, b], c⟩
  | .tu l, cs, h => by
    obtain ⟨a, b, c⟩ := fillPs_ren π l h
    exact ⟨by simp only [renP, fillP, renE, a], by simp only [renP, fillP, b], c⟩
  | .fp l, cs, h => ⟨rfl, rfl, (fillPs_ren π l h).2.2⟩
  | .cl fn fs xs, cs, h => by
    obtain ⟨a, b, c⟩ := fillPs_ren π fs h
    obtain ⟨a2, b2, c2⟩ := fillPs_ren π xs c
    exact ⟨by simp only [renP, fillP, renE, a, b, a2], by simp only [renP, fillP, b, b2], c2⟩
theorem fillPs_ren (π : Nat → Nat) : ∀ (ps : List PV) {cs : List EV}, Vals cs → (fillPs (renPs π ps) cs).1 = renEs π (fillPs ps cs).1 ∧ (fillPs (renPs π ps) cs).2 = (fillPs ps cs).2 ∧ Vals (fillPs ps cs).2
  | [], cs, h => ⟨rfl, rfl, h⟩
  | p :: ps, cs, h => by
    obtain ⟨a, b, c⟩ := fillP_ren π p h
    obtain ⟨a2, b2, c2⟩ := fillPs_ren π ps c
    exact ⟨by simp only [renPs, fillPs, renEs, a, b, a2], by simp only [renPs, fillPs, b, b2], c2⟩
end
theorem renEs_map (π : Nat → Nat) : ∀ cs : List EV, renEs π cs = cs.map (renE π)
  | [] => rfl
  | c :: cs => by rw [renEs, renEs_map π cs]; rfl
theorem VR.close {Rd : Nat → Nat → Value → Prop} {E : Option Env} {c : AV} {u : Value} (h : VR Rd E c u) (hn : c.nom (fun _ => true) = true) : VR Rd none c u := by
  induction h with
  | un => exact .un
  | v => exact .v
  | sl us hw h1c hl hc h1 h2 h3 ha ih => exact .sl us hw h1c hl hc h1 h2 h3 ha
  | ow => simp [AV.nom] at hn
  | pt => simp [AV.nom] at hn
  | pe => simp [AV.nom] at hn
  | sw => simp [AV.nom] at hn
  | fp us hl hc ha ih => exact .fp us hl hc ha
  | ag us hl hc ih => exact .ag us hl fun j c u h1 h2 => ih j c u h1 h2 (nomL_get (by simpa [AV.nom] using hn) j c h1)
  | tu us hl hc ih => exact .tu us hl fun j c u h1 h2 => ih j c u h1 h2 (nomL_get (by simpa [AV.nom] using hn) j c h1)
  | mp => simp [AV.nom] at hn
  | cl us xs hl hl2 hc hc2 ih ih2 =>
    simp only [AV.nom, Bool.and_eq_true] at hn
    exact .cl us xs hl hl2 (fun j c u h1 h2 => ih j c u h1 h2 (nomL_get hn.1 j c h1)) (fun j c u h1 h2 => ih2 j c u h1 h2 (nomL_get hn.2 j c h1))
theorem encS_nom (s : Sc) (x : s.Val) (p : Nat → Bool) : (encS s x).nom p = true := by cases s <;> rfl
theorem tightE_nom (c : EV) (hc : c = .un ∨ ∃ s x, c = EV.sc s x) (p : Nat → Bool) : (enc (tightE c)).nom p = true := by
  rcases hc with rfl | ⟨s, x, rfl⟩
  · rfl
  · cases s <;> rfl
theorem head_vals {cs : List EV} (h : Vals cs) : cs.headD .un = .un ∨ ∃ s x, cs.headD .un = EV.sc s x := by
  cases cs with
  | nil => exact .inl rfl
  | cons c cs => exact .inr (h c (by simp))
theorem closedP_nom {p : PV} (hp : closedP p = true) {cs : List EV} (h : Vals cs) : (enc (fillP p cs).1).nom (fun _ => true) = true := by
  cases p with
  | h s =>
    rcases head_vals h with e | ⟨s', x, e⟩
    · simp only [fillP, e]; rfl
    · simp only [fillP, e]; exact encS_nom _ _ _
  | t r => exact tightE_nom _ (head_vals h) _
  | k c => cases c <;> first | rfl | (simp [closedP, closedK] at hp)
  | _ => simp [closedP] at hp
theorem closedPs_nom : ∀ {ps : List PV} (_ : ps.all closedP = true) {cs : List EV}, Vals cs → ∀ c ∈ encL (fillPs ps cs).1, c.nom (fun _ => true) = true
  | [], _, cs, h, c, hc => by cases hc
  | p :: ps, hp, cs, h, c, hc => by
    simp only [List.all_cons, Bool.and_eq_true] at hp
    simp only [fillPs, encL] at hc
    rcases List.mem_cons.1 hc with rfl | hc
    · exact closedP_nom hp.1 h
    · exact closedPs_nom hp.2 (fillP_ren id p h).2.2 c hc
section
variable {hg : Nat → Option EOb} {bo : Bool} {R1 R2 : Nat → Nat → Value → Prop} {e e1 : Env} {gF : List Nat}
/-- what stands behind what is given -/
structure GF (hg : Nat → Option EOb) (R1 R2 : Nat → Nat → Value → Prop) (e e1 : Env) (gF : List Nat) : Prop where
  mono : ∀ b o u, R1 b o u → R2 b o u
  blk : ∀ j, e1.blk j = e.blk j
  sv : ∀ j, e1.sv j = e.sv j
  row : ∀ k, gF.contains k = true → ∀ t r xs wr, hg k = some (.arr t r xs wr) → VR R2 none (.sl false r.w (List.map (encC r) xs)) (e.sv k)
  box : ∀ k, gF.contains k = true → ∀ t cs, t ≠ itT → hg k = some (.box t cs) → ∃ b us, e.blk k = some b ∧ LR (VR R1 (some e)) (encL cs) us ∧ ∀ (j : Nat) u, us[j]? = some u → R2 b j u
theorem GF.carry (g : GF hg R1 R2 e e1 gF) {c : AV} {u : Value} (h : VR R1 (some e) c u) : VR R2 (some e1) c u := (h.mono g.mono).envEq rfl g.blk g.sv
theorem giveS_ok (g : GF hg R1 R2 e e1 gF) {s : Sc} {c : EV} {x : s.Val} {gs : List Nat} (h : giveS hg s c = some (x, gs)) (hgs : ∀ k, gs.contains k = true → gF.contains k = true) {u : Value} (hv : VR R1 (some e) (enc c) u) : VR R2 (some e1) (encS s x) u := by
  unfold giveS at h
  split at h
  · rename_i k
    split at h
    · rename_i t r xs wr hk
      split at h
      · rename_i y hy
        cases h
        obtain ⟨rfl, rfl⟩ := castS_ok hy
        cases hv
        exact (g.row k (hgs k (by simp)) t r _ wr hk).some_of_none
      · cases h
    · cases h
  · split at h
    · rename_i y hy
      cases h
      exact asS_ok hy _ _ _ (g.carry hv)
    · cases h
mutual
theorem valG_vals : ∀ (p : PV) {c : EV} {hs : List EV} {gs : List Nat}, valG hg bo p c = some (hs, gs) → Vals hs
  | .h s, c, hs, gs, h => by
    simp only [valG] at h
    split at h
    · cases h
      intro c hc; simp only [List.mem_singleton] at hc; exact ⟨_, _, hc⟩
    · cases h
  | .t r, c, hs, gs, h => by
    simp only [valG] at h
    split at h
    · split at h
      · cases h
        intro c hc; simp only [List.mem_singleton] at hc; exact ⟨_, _, hc⟩
      · cases h
    · cases h
      intro c hc; simp only [List.mem_singleton] at hc; exact ⟨_, _, hc⟩
    · cases h
  | .k c0, c, hs, gs, h => by
    simp only [valG] at h
    obtain ⟨_, h2⟩ := cond_none h
    cases h2
    intro c hc; cases hc
  | .ag l, c, hs, gs, h => by
    simp only [valG] at h
    split at h
    · exact valGs_vals l h
    · cases h
  | .tu l, c, hs, gs, h => by simp [valG] at h
  | .fp l, c, hs, gs, h => by
    simp only [valG] at h
    split at h
    · obtain ⟨_, h2⟩ := cond_none h
      split at h2
      · rename_i hvs
        cases h2
        exact valGs_vals l hvs
      · cases h2
    · obtain ⟨_, h2⟩ := cond_none h
      split at h2
      · obtain ⟨_, h2⟩ := cond_none h2
        split at h2
        · rename_i hvs
          cases h2
          exact valGs_vals l hvs
        · cases h2
      · cases h2
    · cases h
  | .cl fn fs xs, c, hs, gs, h => by
    simp only [valG] at h
    split at h
    · obtain ⟨_, h2⟩ := cond_none h
      split at h2
      · rename_i ha
        split at h2
        · rename_i hb
          cases h2
          intro c hc
          rcases List.mem_append.1 hc with hc | hc
          · exact valGs_vals fs ha c hc
          · exact valGs_vals xs hb c hc
        · cases h2
      · cases h2
    · cases h
theorem valGs_vals : ∀ (ps : List PV) {cs : List EV} {hs : List EV} {gs : List Nat}, valGs hg bo ps cs = some (hs, gs) → Vals hs
  | [], cs, hs, gs, h => by
    simp only [valGs] at h
    split at h
    · cases h; intro c hc; cases hc
    · cases h
  | p :: ps, cs, hs, gs, h => by
    simp only [valGs] at h
    split at h
    · cases h
    · split at h
      · rename_i ha
        split at h
        · rename_i hb
          cases h
          intro c hc
          rcases List.mem_append.1 hc with hc | hc
          · exact valG_vals p ha c hc
          · exact valGs_vals ps hb c hc
        · cases h
      · cases h
end
mutual
theorem valG_ok (g : GF hg R1 R2 e e1 gF) : ∀ (p : PV) {c : EV} {hs : List EV} {gs : List Nat} (rest : List EV), Vals rest → valG hg bo p c = some (hs, gs) → (∀ k, gs.contains k = true → gF.contains k = true) → (fillP p (hs ++ rest)).2 = rest ∧ ∀ u, VR R1 (some e) (enc c) u → VR R2 (some e1) (enc (fillP p (hs ++ rest)).1) u
  | .h s, c, hs, gs, rest, hr, h, hgs => by
    simp only [valG] at h
    split at h
    · rename_i x gs' hx
      cases h
      exact ⟨rfl, fun u hv => giveS_ok g hx hgs hv⟩
    · cases h
  | .t r, c, hs, gs, rest, hr, h, hgs => by
    simp only [valG] at h
    split at h
    · split at h
      · rename_i ys hy
        cases h
        obtain ⟨e, rfl⟩ := castS_ok hy
        cases e
        exact ⟨rfl, fun u hv => g.carry hv⟩
      · cases h
    · cases h
      exact ⟨rfl, fun u hv => Wk.empty' _ _ _ (g.carry hv)⟩
    · cases h
  | .k c0, c, hs, gs, rest, hr, h, hgs => by
    simp only [valG] at h
    obtain ⟨h1, h2⟩ := cond_none h
    cases h2
    exact ⟨rfl, fun u hv => sameE_ok h1 _ _ _ (g.carry hv)⟩
  | .ag l, c, hs, gs, rest, hr, h, hgs => by
    simp only [valG] at h
    split at h
    · obtain ⟨a, b⟩ := valGs_ok g l rest hr h hgs
      refine ⟨a, fun u hv => ?_⟩
      obtain ⟨us, rfl, hlr⟩ := VR.ag_inv hv
      have := b us hlr
      exact .ag us this.1 this.2
    · cases h
  | .tu l, c, hs, gs, rest, hr, h, hgs => by simp [valG] at h
  | .fp l, c, hs, gs, rest, hr, h, hgs => by
    simp only [valG] at h
    split at h
    · rename_i cs
      obtain ⟨hcl, h2⟩ := cond_none h
      split at h2
      · rename_i vs hvs
        cases h2
        obtain ⟨a, b⟩ := valGs_ok g l rest hr hvs (fun k hk => by simp at hk)
        have hvv : Vals (hs ++ rest) := fun c hc => (List.mem_append.1 hc).elim (valGs_vals l hvs c) (hr c)
        refine ⟨a, fun u hv => ?_⟩
        cases hv with
        | fp us hl hc ha =>
          have := b us ⟨hl, fun j c u h1 h2 => (hc j c u h1 h2).some_of_none⟩
          exact .fp us this.1 (fun j c u h1 h2 => (this.2 j c u h1 h2).close (closedPs_nom hcl hvv c (List.mem_of_getElem? h1))) fun j u hu => g.mono _ _ _ (ha j u hu)
      · cases h2
    · rename_i k o
      obtain ⟨hcl, h2⟩ := cond_none h
      simp only [Bool.and_eq_true] at hcl
      have ho := Nat.eq_of_beq_eq_true hcl.1.2
      subst ho
      split at h2
      · rename_i t cs hk
        obtain ⟨hti, h2⟩ := cond_none h2
        split at h2
        · rename_i vs gs' hvs
          cases h2
          obtain ⟨a, b⟩ := valGs_ok g l rest hr hvs (fun k' hk' => hgs k' (by simp at hk' ⊢; exact .inr hk'))
          have hvv : Vals (hs ++ rest) := fun c hc => (List.mem_append.1 hc).elim (valGs_vals l hvs c) (hr c)
          refine ⟨a, fun u hv => ?_⟩
          obtain ⟨bb, us, hb, hlr, hc⟩ := g.box k (hgs k (by simp)) t cs (ne_itT hti) hk
          cases hv with
          | pt hb' =>
            rw [hb] at hb'
            cases hb'
            have := b us hlr
            exact .fp us this.1 (fun j c u h1 h2 => (this.2 j c u h1 h2).close (closedPs_nom hcl.2 hvv c (List.mem_of_getElem? h1))) fun j u hu => by rw [Nat.zero_add]; exact hc j u hu
        · cases h2
      · cases h2
    · cases h
  | .cl fn fs xs, c, hs, gs, rest, hr, h, hgs => by
    simp only [valG] at h
    split at h
    · obtain ⟨h1, h2⟩ := cond_none h
      obtain rfl := fnB_ok h1
      split at h2
      · rename_i a g1 ha
        split at h2
        · rename_i b g2 hb
          cases h2
          have hr2 : Vals (b ++ rest) := fun c hc => (List.mem_append.1 hc).elim (valGs_vals xs hb c) (hr c)
          obtain ⟨a1, a2⟩ := valGs_ok g fs (b ++ rest) hr2 ha (fun k hk => hgs k (by simp at hk ⊢; exact .inl hk))
          obtain ⟨b1, b2⟩ := valGs_ok g xs rest hr hb (fun k hk => hgs k (by simp at hk ⊢; exact .inr hk))
          simp only [fillP, List.append_assoc, a1]
          refine ⟨b1, fun u hv => ?_⟩
          cases hv with
          | cl us vs hl hl2 hc hc2 =>
            have k1 := a2 us ⟨hl, hc⟩
            have k2 := b2 vs ⟨hl2, hc2⟩
            exact .cl us vs k1.1 k2.1 k1.2 k2.2
        · cases h2
      · cases h2
    · cases h
theorem valGs_ok (g : GF hg R1 R2 e e1 gF) : ∀ (ps : List PV) {cs : List EV} {hs : List EV} {gs : List Nat} (rest : List EV), Vals rest → valGs hg bo ps cs = some (hs, gs) → (∀ k, gs.contains k = true → gF.contains k = true) → (fillPs ps (hs ++ rest)).2 = rest ∧ ∀ us, LR (VR R1 (some e)) (encL cs) us → LR (VR R2 (some e1)) (encL (fillPs ps (hs ++ rest)).1) us
  | [], cs, hs, gs, rest, hr, h, hgs => by
    simp only [valGs] at h
    split at h
    · cases h
      exact ⟨rfl, fun us hl => by
        have : us = [] := List.eq_nil_of_length_eq_zero (by simpa [encL] using hl.1)
        subst this
        exact LR.nil⟩
    · cases h
  | p :: ps, cs, hs, gs, rest, hr, h, hgs => by
    simp only [valGs] at h
    split at h
    · cases h
    · rename_i c cs
      split at h
      · rename_i a g1 ha
        split at h
        · rename_i b g2 hb
          cases h
          have hr2 : Vals (b ++ rest) := fun c hc => (List.mem_append.1 hc).elim (valGs_vals ps hb c) (hr c)
          obtain ⟨a1, a2⟩ := valG_ok g p (b ++ rest) hr2 ha (fun k hk => hgs k (by simp at hk ⊢; exact .inl hk))
          obtain ⟨b1, b2⟩ := valGs_ok g ps rest hr hb (fun k hk => hgs k (by simp at hk ⊢; exact .inr hk))
          simp only [fillPs, List.append_assoc, a1]
          refine ⟨b1, fun us hl => ?_⟩
          cases us with
          | nil => have := hl.1; simp [encL] at this
          | cons u us =>
            exact LR.cons (a2 u (hl.2 0 _ u rfl rfl)) (b2 us ⟨by simpa [encL] using hl.1, fun j c v h1 h2 => hl.2 (j + 1) c v (by simpa [encL] using h1) (by simpa using h2)⟩)
        · cases h
      · cases h
end
end
/-! ### a contract, met -/
def handO : EOb → Bool
  | .arr _ _ _ wr => wr
  | _ => true
def valXs (hg : Nat → Option EOb) (D : List (Nat × Nat)) (B : Nat) : List (Nat × PO) → Option (List EV)
  | [] => some []
  | (p, po) :: hs => match asc D p with
    | some k => match hg k with
      | some o => cond (handO o) (match valO (renPO (piX D B) po) o with
        | some a => match valXs hg D B hs with
          | some b => some (a ++ b)
          | none => none
        | none => none) none
      | none => none
    | none => none
def lendOs (hg : Nat → Option EOb) : List Nat → EHp
  | [] => []
  | k :: gs => match hg k with
    | some (.arr t r xs _) => (k, some (.arr t r xs false)) :: lendOs hg gs
    | _ => lendOs hg gs
def isRow (hg : Nat → Option EOb) (k : Nat) : Bool := match hg k with
  | some (.arr _ _ _ _) => true
  | _ => false
def delE (D : List (Nat × Nat)) : EHp := D.map fun q => (q.2, none)
/-- windows of own rows, by what they hold -/
def deW (hg : Nat → Option EOb) : EV → EV × List Nat × Bool
  | .sw k l n sz => match hg k with
    | some (.arr _ r xs _) => cond (Nat.beq r.w sz) (.sc (.sl r) (show List r.Val from (xs.drop l.toNat).take n.toNat), [k], Nat.ble (l.toNat + n.toNat) xs.length) (.sw k l n sz, [], true)
    | _ => (.sw k l n sz, [], true)
  | c => (c, [], true)
def deWs (hg : Nat → Option EOb) : List EV → List EV × List Nat × Bool
  | [] => ([], [], true)
  | c :: cs => ((deW hg c).1 :: (deWs hg cs).1, (deW hg c).2.1 ++ (deWs hg cs).2.1, (deW hg c).2.2 && (deWs hg cs).2.2)
def WinOk (e : Env) (R2 : Nat → Nat → Value → Prop) (k : Nat) (r : Sc) (xs : List r.Val) : Prop :=
  ∀ b, e.blk k = some b → ∃ us, LR (VR R2 none) (List.map (encC r) xs).flatten us ∧ ∀ (j : Nat) u, us[j]? = some u → R2 b j u
theorem deW_ok {hg : Nat → Option EOb} {R1 R2 : Nat → Nat → Value → Prop} {e : Env} (hmono : ∀ b o u, R1 b o u → R2 b o u) (c : EV) {u : Value}
    (hw : ∀ k, (deW hg c).2.1.contains k = true → ∀ t r xs wr, hg k = some (.arr t r xs wr) → WinOk e R2 k r xs) (hck : (deW hg c).2.2 = true) (hv : VR R1 (some e) (enc c) u) : VR R2 (some e) (enc (deW hg c).1) u := by
  unfold deW at hw hck ⊢
  split
  · rename_i k l n sz
    simp only at hw hck
    split
    · rename_i t r xs wr hk
      rw [hk] at hw hck
      simp only at hw hck
      cases hb : Nat.beq r.w sz with
      | false => exact hv.mono hmono
      | true =>
        rw [hb] at hw hck
        simp only [cond_true] at hw hck ⊢
        have hb := Nat.eq_of_beq_eq_true hb
        subst hb
        have hck := Nat.le_of_ble_eq_true hck
        cases hv with
        | @sw e0 k0 l0 n0 sz0 b o cap h ho h1 h2 =>
          obtain ⟨us, h3, h4⟩ := hw k (by simp) t r xs wr hk b h
          have hrl : ∀ q ∈ List.map (encC r) xs, q.length = r.w := by
            intro q hq
            obtain ⟨z, _, rfl⟩ := List.mem_map.1 hq
            exact encC_len r z
          have hlen : ((List.map (encC r) xs).drop l.toNat |>.take n.toNat).length = n.toNat := by
            rw [List.length_take, List.length_drop, List.length_map]; omega
          have hrl2 : ∀ q ∈ ((List.map (encC r) xs).drop l.toNat |>.take n.toNat), q.length = r.w := fun q hq => hrl q (List.mem_of_mem_drop (List.mem_of_mem_take hq))
          have hfl : ((List.map (encC r) xs).drop l.toNat |>.take n.toNat).flatten = ((List.map (encC r) xs).flatten.drop (l.toNat * r.w)).take (n.toNat * r.w) := by
            rw [flatten_take_of _ _ (fun q hq => hrl q (List.mem_of_mem_drop hq)), flatten_drop_of _ _ hrl]
          have hus : (us.drop (l.toNat * r.w)).take (n.toNat * r.w) = (us.drop (l.toNat * r.w)).take (n.toNat * r.w) := rfl
          have := VR.sl (Rd := R2) (E := some e) (tight := false) (sz := r.w) (rows := ((List.map (encC r) xs).drop l.toNat |>.take n.toNat)) (a := some ⟨b, o, none⟩) (cap := cap)
            ((us.drop (l.toNat * r.w)).take (n.toNat * r.w)) hrl2 (enc_rows_one r _ |> fun hh => by
              intro c hc
              obtain ⟨q, hq, hcq⟩ := List.mem_flatten.1 hc
              exact hh c (List.mem_flatten.2 ⟨q, List.mem_of_mem_drop (List.mem_of_mem_take hq), hcq⟩))
            (by rw [hfl, List.length_take, List.length_take, List.length_drop, List.length_drop, h3.1])
            (fun j c u hc hu => by
              rw [hfl] at hc
              rw [List.getElem?_take] at hc hu
              split at hc
              · rename_i hj
                rw [if_pos hj, List.getElem?_drop] at hu
                rw [List.getElem?_drop] at hc
                exact h3.2 _ c u hc hu
              · cases hc) (by rw [hlen]; exact h1) h2 (fun hh => by cases hh)
            (fun hne => ⟨b, o, rfl, fun j u hj => by
              rw [List.getElem?_take] at hj
              split at hj
              · rename_i hjn
                rw [List.getElem?_drop] at hj
                have hn : 0 < n.toNat := by
                  cases hz : n.toNat with
                  | zero => rw [hz] at hjn; simp at hjn
                  | succ m => omega
                rw [ho hn]
                exact h4 _ u hj
              · cases hj⟩)
          rw [hlen, ← List.map_drop, ← List.map_take] at this
          exact this
    · rename_i hno
      exact hv.mono hmono
  · exact hv.mono hmono
theorem deWs_ok {hg : Nat → Option EOb} {R1 R2 : Nat → Nat → Value → Prop} {e : Env} (hmono : ∀ b o u, R1 b o u → R2 b o u) : ∀ (cs : List EV) {us : List Value}
    (hw : ∀ k, (deWs hg cs).2.1.contains k = true → ∀ t r xs wr, hg k = some (.arr t r xs wr) → WinOk e R2 k r xs) (hck : (deWs hg cs).2.2 = true) (hv : LR (VR R1 (some e)) (encL cs) us), LR (VR R2 (some e)) (encL (deWs hg cs).1) us
  | [], us, hw, hck, hv => by
    have : us = [] := List.eq_nil_of_length_eq_zero (by simpa [encL] using hv.1)
    subst this
    exact LR.nil
  | c :: cs, us, hw, hck, hv => by
    simp only [deWs, Bool.and_eq_true] at hck
    cases us with
    | nil => have := hv.1; simp [encL] at this
    | cons u us =>
      simp only [deWs, encL]
      exact LR.cons (deW_ok hmono c (fun k hk => hw k (by simp only [deWs]; simp at hk ⊢; exact .inl hk)) hck.1 (hv.2 0 _ u rfl rfl))
        (deWs_ok hmono cs (fun k hk => hw k (by simp only [deWs]; simp at hk ⊢; exact .inr hk)) hck.2 ⟨by simpa [encL] using hv.1, fun j c v h1 h2 => hv.2 (j + 1) c v (by simpa [encL] using h1) (by simpa using h2)⟩)
def exCtr' (hg : Nat → Option EOb) (d : Nat) (c : Ctr) (as : List EV) (D : List (Nat × Nat)) {R : Type} (k : EV → EHp → List Nat → Fr → Option R) : Option (Option R) :=
  match cond c.pu (deWs hg as) (as, [], true) with
  | (as', gw, ck) => match valGs hg c.pu (renPs (piX D (1000 * (d + 1))) c.ps) as' with
  | some (vs, gs) => match valXs hg D (1000 * (d + 1)) c.hs with
    | some ws => match joinT c.cs (vs ++ ws) with
      | some x => cond (okD (1000 * (d + 1)) D && (gw ++ gs).all (fun k => (rac D k).isNone) && D.all (fun q => c.hs.any fun r => Nat.beq r.1 q.1) && (c.pu || (gw ++ gs).all (isRow hg)))
        (some (cond ck (obind (c.M x) fun y => c.el y R fun e H => cond c.own
          (cond (smallX D (encH H) && (enc e).nom (fun k => !okN D k))
            (k (renE (piX D (1000 * (d + 1))) e) (renEH (piX D (1000 * (d + 1))) H ++ (delE D ++ cond c.pu [] (lendOs hg (gw ++ gs)))) ((gw ++ gs) ++ D.map (·.2)) (.blk (1000 * (d + 1)))) none)
          (cond ((enc e).nom (fun _ => true) && D.isEmpty) (k e (cond c.pu [] (lendOs hg (gw ++ gs))) (gw ++ gs) .no) none)) none))
        none
      | none => none
    | none => none
  | none => none
def knownE : EV → Bool
  | .un => false
  | _ => true
def exCtr (hg : Nat → Option EOb) (d : Nat) (c : Ctr) (as : List EV) {R : Type} (k : EV → EHp → List Nat → Fr → Option R) : Option (Option R) :=
  cond (as.all knownE) (exCtr' hg d c as (bindH hg c.hs (bindPs c.ps as [])) k) none
def exCall (hg : Nat → Option EOb) (d : Nat) (f : FuncId) (as : List EV) {R : Type} (k : EV → EHp → List Nat → Fr → Option R) : List Ctr → Option R
  | [] => none
  | c :: cs => cond (Nat.beq c.f f) (match exCtr hg d c as k with
    | some r => r
    | none => exCall hg d f as k cs) (exCall hg d f as k cs)
def fnE (ev : Nat → EV) : Operand → Option (FuncId × List EV × List EV)
  | .func f => some (f, [], [])
  | .tmp i => match ev i with
    | .v (.func (.func g) ⟨[]⟩ ⟨[]⟩) => some (g, [], [])
    | .cl (.func g) fs cs => some (g, fs, cs)
    | _ => none
  | _ => none
def nrAt : List (Nat × Nat) → Nat → Nat → Bool
  | [], _, _ => false
  | (m, e) :: l, n, d => cond (Nat.beq m n && Nat.beq e d) true (nrAt l n d)
/-- a row of the call's own, cut at its end, for good -/
def exShrink (T : TypeId → TInfo) (ev : Nat → EV) (hg : Nat → Option EOb) (d : Nat) (t : TypeId) (x : Operand) (lo hi mx : Option Operand) {R : Type} (k : EV → EHp → List Nat → Fr → Option R) : Option R :=
  match lo, hi, mx with
  | none, some y, none => match (T t).el with
    | some (e, sz, _, _) => match evx ev x with
      | .ow j => match hg j with
        | some (.arr e' r xs wr) => match intE ev y with
          | some h => cond (Nat.beq e e' && Nat.beq sz r.w && wr && !(Nat.beq d j)) (obind (subI xs 0 h) fun zs => k (.ow d) [(d, some (.arr e r zs true)), (j, none)] [j] (.one d)) none
          | none => none
        | _ => none
      | _ => none
    | none => none
  | _, _, _ => none
def exO (T : TypeId → TInfo) (CT : List Ctr) (n : Nat) (ev : Nat → EV) (hg : Nat → Option EOb) (o : Oper) {R : Type} (k : EV → EHp → List Nat → Fr → Option R) : Option R :=
  match o.dst with
  | some d => cond (Nat.blt d n) (match o.op with
    | .call ⟨.value f, args, _⟩ => match fnE ev f with
      | some (f, fs, cs) => exCall hg d f (fs ++ (args.toList.map (evx ev) ++ cs)) k CT
      | none => none
    | .box t x => exM T ev hg d (.box t x) k
    | .alloc t => exM T ev hg d (.alloc t) k
    | .makeSlice t x y => cond (nrAt gNr n d) (exMakeNr T ev d t x y k) (exM T ev hg d (.makeSlice t x y) k)
    | .makeMap t x => exM T ev hg d (.makeMap t x) k
    | .slice t x lo hi mx => cond (nrAt gNr n d) (exShrink T ev hg d t x lo hi mx k) (exM T ev hg d (.slice t x lo hi mx) k)
    | .buildSlice t len ps => cond (nrAt gNr n d) (exLitT T ev hg d t len ps.toList k) (exM T ev hg d (.buildSlice t len ps) k)
    | .call ⟨.builtin .append, args, ts⟩ => exM T ev hg d (.call ⟨.builtin .append, args, ts⟩) k
    | op => exR T ev hg op fun c us => k c [] us .no) none
  | none => match o.op with
    | .store t x y => exStore T ev hg t x y fun os us => k .un os us .no
    | .mapUpdate t x y v => exMapPut T ev hg t x y v fun os us => k .un os us .no
    | .insert t x y v => exMapPut T ev hg t x y v fun os us => k .un os us .no
    | _ => none

section
variable {P : Program} {T : TypeId → TInfo} {ev : Nat → EV} {hg : Nat → Option EOb} {n d : Nat} {ty : TypeId} {pos : String} {af : Array Edge} {gd : Option (Nat × Bool)}
variable {st : St} {K : St → Prop}
theorem ev_map {args : Array Operand} (hs : Sk ev st) (hne : ∀ c ∈ args.toList.map (evx ev), c ≠ .un) : args.toList.map st.ev = encL (args.toList.map (evx ev)) := by
  rw [encL_map, List.map_map]
  refine List.map_congr_left fun x hx => ?_
  exact hs.is rfl (hne _ (List.mem_map.2 ⟨x, hx, rfl⟩))
theorem hkilp_os {p : Nat → Bool} : ∀ {os : EHp} {h : Hp}, OsOk hg os → (∀ k o, (k, o) ∈ os → p k = false) → hkilp p (encH os ++ h) = encH os ++ hkilp p h
  | [], h, _, _ => rfl
  | (k, o) :: os, h, ho, hp => by
    obtain ⟨t, r, xs, wr, h1, rfl⟩ := ho k o (by simp)
    have ih := hkilp_os (os := os) (h := h) (fun k o hm => ho k o (by simp [hm])) (fun k o hm => hp k o (by simp [hm]))
    simp only [encH, List.cons_append, hkilp, ih, hp k _ (by simp : (k, some (EOb.arr t r xs false)) ∈ (k, some (EOb.arr t r xs false)) :: os)]
    rfl
theorem fillO_ren (π : Nat → Nat) (po : PO) {cs : List EV} (h : Vals cs) : (fillO (renPO π po) cs).1 = (fillO po cs).1.map (renO π) ∧ (fillO (renPO π po) cs).2 = (fillO po cs).2 ∧ Vals (fillO po cs).2 := by
  cases po with
  | box t l =>
    obtain ⟨a, b, c⟩ := fillPs_ren π l h
    exact ⟨by simp only [renPO, fillO, a, Option.map, renO], by simp only [renPO, fillO, b], c⟩
  | arr t r wr =>
    refine ⟨?_, rfl, h.tail⟩
    simp only [renPO, fillO]
    rcases head_vals h with e | ⟨s, x, e⟩
    · rw [e]; rfl
    · rw [e]
      simp only [arrE]
      cases castS s (.sl r) x <;> rfl
  | mp d kc vc =>
    refine ⟨?_, rfl, h.tail⟩
    simp only [renPO, fillO]
    rcases head_vals h with e | ⟨s, x, e⟩
    · rw [e]; rfl
    · rw [e]
      simp only [mpE]
      cases castS s (.sl (.pr kc vc)) x <;> rfl
  | nr t r ho =>
    cases ho with
    | none =>
      refine ⟨?_, rfl, h.tail⟩
      simp only [renPO, fillO]
      rcases head_vals h with e | ⟨s, x, e⟩
      · rw [e]; rfl
      · rw [e]
        simp only [nrE]
        cases castS s (.sl (.sl r)) x <;> rfl
    | some q =>
      obtain ⟨s0, p⟩ := q
      refine ⟨?_, rfl, h.tail.tail⟩
      simp only [renPO, fillO]
      rcases head_vals h with e | ⟨s, x, e⟩
      · rw [e]; rfl
      · rw [e]
        rcases head_vals h.tail with e2 | ⟨s2, x2, e2⟩
        · rw [e2]; rfl
        · rw [e2]
          simp only [nrE2]
          cases castS s (.sl (.sl r)) x with
          | none => rfl
          | some xs => cases castS s2 (.i .i64) x2 <;> rfl
theorem valXs_ok {D : List (Nat × Nat)} {B : Nat} : ∀ (hs : List (Nat × PO)) {ws : List EV} (rest : List EV), valXs hg D B hs = some ws → Vals (ws ++ rest) →
    (∀ p o', ehget (fillH hs (ws ++ rest)) p = some o' → ∃ k o, asc D p = some k ∧ hg k = some o ∧ handO o = true ∧ ∀ Rd e w, OR Rd e w k (encO o) → OR Rd e w k (encO (renO (piX D B) o'))) ∧
    (∀ p, hs.any (fun r => Nat.beq r.1 p) = true → ∃ k o, asc D p = some k ∧ hg k = some o ∧ handO o = true)
  | [], ws, rest, h, hv => ⟨fun p o' ho => (by cases ho), fun p hp => (by cases hp)⟩
  | (p, po) :: hs, ws, rest, h, hv => by
    simp only [valXs] at h
    split at h
    · rename_i k hk
      split at h
      · rename_i o ho
        obtain ⟨h1, h2⟩ := cond_none h
        split at h2
        · rename_i a ha
          split at h2
          · rename_i b hb
            cases h2
            have hv' : Vals (a ++ (b ++ rest)) := by rw [← List.append_assoc]; exact hv
            obtain ⟨v1, o1, v2, v3⟩ := valO_ok (renPO (piX D B) po) (b ++ rest) ha
            obtain ⟨r1, r2, r3⟩ := fillO_ren (piX D B) po hv'
            have hv2 : Vals (b ++ rest) := fun c hc => hv' c (List.mem_append.2 (.inr hc))
            obtain ⟨i1, i2⟩ := valXs_ok hs rest hb hv2
            refine ⟨fun q o' hq => ?_, fun q hq => ?_⟩
            · simp only [fillH, List.append_assoc, ehget] at hq
              rw [r2] at v1
              rw [v1] at hq
              by_cases e : q = p
              · subst e
                rw [Nat.beq_refl] at hq
                simp only [cond_true] at hq
                rw [r1, hq] at v2
                simp only [Option.map, Option.some.injEq] at v2
                subst v2
                exact ⟨k, o, hk, ho, h1, fun Rd e w => v3 Rd e w k⟩
              · rw [beq_no e] at hq
                exact i1 q o' hq
            · simp only [List.any_cons, Bool.or_eq_true] at hq
              rcases hq with hq | hq
              · have := Nat.eq_of_beq_eq_true hq
                subst this
                exact ⟨k, o, hk, ho, h1⟩
              · exact i2 q hq
          · cases h2
        · cases h2
      · cases h
    · cases h
theorem lendOs_ok (hg : Nat → Option EOb) : ∀ gs : List Nat, OsOk hg (lendOs hg gs) ∧ ∀ p ∈ lendOs hg gs, gs.contains p.1 = true
  | [] => ⟨fun k o h => (by cases h), fun p h => (by cases h)⟩
  | k :: gs => by
    obtain ⟨a, b⟩ := lendOs_ok hg gs
    simp only [lendOs]
    split
    · rename_i t r xs wr hk
      refine ⟨fun j o h => ?_, fun p h => ?_⟩
      · rcases List.mem_cons.1 h with h | h
        · cases h; exact ⟨t, r, xs, wr, hk, rfl⟩
        · exact a j o h
      · rcases List.mem_cons.1 h with rfl | h
        · simp
        · have := b p h; simp at this ⊢; exact .inr this
    · exact ⟨a, fun p h => by have := b p h; simp at this ⊢; exact .inr this⟩
theorem lendGs {w0 : Bs} {Rd0 : Nat → Nat → Value → Prop} {e : Env} {h : Hp} {w : World} {us' : List Nat} (hs : SR w0 Rd0 e h w) (hh : HC hg us' h) : ∀ gs : List Nat, (∀ k, gs.contains k = true → us'.contains k = true) →
    ∃ e1, Lent w0 Rd0 e h w e1 (encH (lendOs hg gs) ++ h) ∧ ∀ k, gs.contains k = true → ∀ t r xs wr, hg k = some (.arr t r xs wr) → VR (RDx w0 Rd0 e1 (encH (lendOs hg gs) ++ h) w) none (.sl false r.w (List.map (encC r) xs)) (e.sv k)
  | [], _ => ⟨e, Lent.refl hs, fun k hk => by simp at hk⟩
  | k :: gs, hu => by
    obtain ⟨e1, l1, v1⟩ := lendGs hs hh gs (fun j hj => hu j (by simp at hj ⊢; exact .inr hj))
    simp only [lendOs]
    split
    · rename_i t r xs wr hk
      have hh1 : HC hg us' (encH (lendOs hg gs) ++ h) := hh.put (lendOs_ok hg gs).1 fun _ h => h
      obtain ⟨wr', hw⟩ := hh1 k (hu k (by simp)) t r xs wr hk
      obtain ⟨e2, h1, h2, h3, h4, h5⟩ := l1.sr.lend hw
      refine ⟨e2, l1.trans ⟨h1, h2, h3, h4⟩, fun j hj t' r' xs' wr'' hj' => ?_⟩
      by_cases e : j = k
      · subst e
        rw [hk] at hj'
        cases hj'
        rw [← l1.sv j]
        exact h5
      · have hj : gs.contains j = true := by simp at hj ⊢; exact hj.resolve_left e
        exact (v1 j hj t' r' xs' wr'' hj').mono h2
    · rename_i hno
      refine ⟨e1, l1, fun j hj t' r' xs' wr'' hj' => ?_⟩
      by_cases e : j = k
      · subst e
        exact absurd hj' (hno _ _ _ _)
      · exact v1 j (by simp at hj ⊢; exact hj.resolve_left e) t' r' xs' wr'' hj'
theorem handO_lent {w0 : Bs} {Rd0 : Nat → Nat → Value → Prop} {e : Env} {h : Hp} {w : World} (hs : SR w0 Rd0 e h w) {k : Nat} {o : EOb} (hk : hget h k = some (encO o)) (ho : handO o = true) : e.lent k = 0 := by
  have := hs.ob k _ hk
  cases o with
  | box t cs => exact this.1
  | arr t r xs wr => exact this.2.2.1 ho
  | mp d kc vc es => exact this.1
  | nr t r xs ho => exact this.1
theorem hget_os {os : EHp} {h : Hp} {k : Nat} (hn : ∀ p ∈ os, p.1 ≠ k) : hget (encH os ++ h) k = hget h k := by
  rw [hget_append, any_enc]
  rw [if_neg]
  simp only [List.any_eq_true, beq_iff_eq, not_exists, not_and]
  exact fun p hp => hn p hp
theorem args_ren {D : List (Nat × Nat)} {B : Nat} {cs : List EV} : encL (renEs (piX D B) cs) = (encL cs).map (AV.ren (piX D B)) := by rw [encL_ren, renL_map]
section
variable {c : Ctr} {as : List EV} {D : List (Nat × Nat)} {vs ws : List EV} {gs : List Nat} {x : Tup c.cs}
theorem handed_of {w0 : Bs} {Rd0 : Nat → Nat → Value → Prop} {e : Env} {h : Hp} {w : World} (hs : SR w0 Rd0 e h w) (hX : ∀ p, c.hs.any (fun r => Nat.beq r.1 p) = true → ∃ k o, asc D p = some k ∧ hg k = some o ∧ handO o = true) (hall : D.all (fun q => c.hs.any fun r => Nat.beq r.1 q.1) = true)
    (hget' : ∀ k o, (∃ p, asc D p = some k) → hg k = some o → hget h k = some (encO o)) : Handed D e h := by
  intro p k hk
  have h1 := List.all_eq_true.1 hall _ (asc_mem hk)
  obtain ⟨k', o, a, b, c'⟩ := hX p h1
  rw [hk] at a
  cases a
  have := hget' k o ⟨p, hk⟩ b
  exact ⟨⟨_, this⟩, handO_lent hs this c'⟩
theorem exCtr_gives (ha : valGs hg c.pu (renPs (piX D (1000 * (d + 1))) c.ps) as = some (vs, gs)) (hw : valXs hg D (1000 * (d + 1)) c.hs = some ws) (hx : vs ++ ws = splitT c.cs x)
    (h2 : gs.all (fun k => (rac D k).isNone) = true) (h3 : D.all (fun q => c.hs.any fun r => Nat.beq r.1 q.1) = true) (h4 : (c.pu || gs.all (isRow hg)) = true) (hp : c.pu = false) (hdd : dstN (D.map (·.2)) = true) {st : St} (hH : Hk hg (gs ++ D.map (·.2)) st) :
    Gives st D (1000 * (d + 1)) (encH (lendOs hg gs) ++ st.h) (encH (c.H0 x)) (encL (c.as x)) (encL as) := by
  intro w0 Rd0 e w us hs hl
  have hvv : Vals (vs ++ ws) := by rw [hx]; exact splitT_vals _ _
  have hws : Vals ws := fun c hc => hvv c (List.mem_append.2 (.inr hc))
  obtain ⟨e1, l1, v1⟩ := lendGs hs hH.hc gs (fun k hk => by simp at hk ⊢; exact .inl hk)
  have hrow : ∀ k, gs.contains k = true → isRow hg k = true := fun k hk => by
    rw [hp] at h4
    exact List.all_eq_true.1 (by simpa using h4) k (by simpa using hk)
  have g : GF hg (RDx w0 Rd0 e st.h w) (RDx w0 Rd0 e1 (encH (lendOs hg gs) ++ st.h) w) e e1 gs :=
    ⟨l1.rd, l1.blk, l1.sv, v1, fun k hk t cs _ hb => by have := hrow k hk; unfold isRow at this; rw [hb] at this; cases this⟩
  obtain ⟨a1, a2⟩ := valGs_ok g _ ws hws ha (fun k h => h)
  obtain ⟨r1, r2, r3⟩ := fillPs_ren (piX D (1000 * (d + 1))) c.ps hvv
  rw [hx] at r1 r2 a1 a2
  have hH0 : c.H0 x = fillH c.hs ws := by unfold Ctr.H0; rw [← r2, a1]
  obtain ⟨x1, x2⟩ := valXs_ok c.hs [] hw (by simpa using hws)
  rw [List.append_nil] at x1
  have hother : ∀ k o, (∃ p, asc D p = some k) → hg k = some o → hget (encH (lendOs hg gs) ++ st.h) k = some (encO o) := by
    rintro k o ⟨p, hk⟩ ho
    have hr : rac D k = some p := rac_of hdd (asc_mem hk)
    rw [hget_os fun q hq => ?_]
    · exact hH.at (by simp only [List.contains_eq_mem, List.mem_append, decide_eq_true_eq]; exact .inr (List.mem_map.2 ⟨_, asc_mem hk, rfl⟩)) ho
    · rintro rfl
      have h5 := (lendOs_ok hg gs).2 q hq
      have := List.all_eq_true.1 h2 q.1 (by simpa using h5)
      rw [hr] at this; cases this
  refine ⟨e1, l1, handed_of l1.sr x2 h3 hother, fun p ob hpo => ?_, ?_⟩
  · rw [hH0, hget_enc] at hpo
    obtain ⟨o', ho', rfl⟩ := Option.map_eq_some_iff.1 hpo
    obtain ⟨k, o, y1, y2, y3, y4⟩ := x1 p o' ho'
    refine ⟨k, _, y1, hother k o ⟨p, y1⟩ y2, fun Rd ho => ?_⟩
    rw [← encO_ren]
    exact y4 Rd e1 w ho
  · have := a2 us hl
    rw [r1, args_ren] at this
    exact this
theorem exCtr_givesP {as' : List EV} {gw : List Nat} (hde : deWs hg as = (as', gw, true)) (ha : valGs hg c.pu (renPs (piX D (1000 * (d + 1))) c.ps) as' = some (vs, gs)) (hw : valXs hg D (1000 * (d + 1)) c.hs = some ws) (hx : vs ++ ws = splitT c.cs x)
    (h2 : (gw ++ gs).all (fun k => (rac D k).isNone) = true) (h3 : D.all (fun q => c.hs.any fun r => Nat.beq r.1 q.1) = true) (hdd : dstN (D.map (·.2)) = true) {st : St} (hH : Hk hg ((gw ++ gs) ++ D.map (·.2)) st) :
    GivesP st D (1000 * (d + 1)) (encH (c.H0 x)) (encL (c.as x)) (encL as) := by
  intro w0 Rd0 e w us hs hl
  have hvv : Vals (vs ++ ws) := by rw [hx]; exact splitT_vals _ _
  have hws : Vals ws := fun c hc => hvv c (List.mem_append.2 (.inr hc))
  obtain ⟨x1, x2⟩ := valXs_ok c.hs [] hw (by simpa using hws)
  rw [List.append_nil] at x1
  have hat : ∀ k o, (gw ++ gs).contains k = true → hg k = some o → hget st.h k = some (encO o) := fun k o hk ho => hH.at (by simp at hk ⊢; rcases hk with hk | hk <;> simp [hk]) ho
  have hother : ∀ k o, (∃ p, asc D p = some k) → hg k = some o → hget st.h k = some (encO o) := by
    rintro k o ⟨p, hk⟩ ho
    exact hH.at (by simp only [List.contains_eq_mem, List.mem_append, decide_eq_true_eq]; exact .inr (List.mem_map.2 ⟨_, asc_mem hk, rfl⟩)) ho
  have hp : Handed D e st.h := handed_of hs x2 h3 hother
  have hnm : ∀ k o b, (gw ++ gs).contains k = true → hg k = some o → e.blk k = some b → ¬ (cB D (1000 * (d + 1)) e w).mine b := by
    rintro k o b hk ho hb (hm | ⟨p, c', hc, hbc⟩)
    · have := (hs.base k _ b (hat k o hk ho) hb).2
      simp only [cB] at hm
      omega
    · obtain ⟨⟨ob, hob⟩, _⟩ := hp p c' hc
      have := hs.inj _ _ _ _ _ (hat k o hk ho) hob hb hbc
      subst this
      have h5 := List.all_eq_true.1 h2 k (by simpa using hk)
      rw [rac_of hdd (asc_mem hc)] at h5
      cases h5
  have hmono : ∀ b o u, RDx w0 Rd0 e st.h w b o u → RB D (1000 * (d + 1)) e w b o u := by
    rintro b o u ⟨q1, q2, q3⟩
    refine ⟨q1, ?_⟩
    rintro (hm | ⟨p, c', hc, hbc⟩)
    · have := World.block_lt_of_cell? w _ q1
      simp only [cB] at hm
      simp only at this
      omega
    · obtain ⟨⟨ob, ho⟩, hl⟩ := hp p c' hc
      have := q3 c' ob ho hbc
      omega
  have hwin : ∀ k, (gw ++ gs).contains k = true → ∀ t r xs wr, hg k = some (.arr t r xs wr) → WinOk e (RB D (1000 * (d + 1)) e w) k r xs := fun k hk t r xs wr ho b' hb' => by
    obtain ⟨q1, q2, q3, q4⟩ := hs.ob k _ (hat k _ hk ho)
    rcases q4 with ⟨a1, a2, a, a3⟩ | ⟨b, cap, cur, a1, a2, a3, a4, a5, a6, a7, a8⟩
    · rw [a2] at hb'; cases hb'
    · rw [a1] at hb'
      cases hb'
      refine ⟨cur.toList.take (List.map (encC r) xs).flatten.length, ⟨a7.1, fun j c u hc hu => (a7.2 j c u hc hu).mono hmono⟩, fun j u hj => ?_⟩
      have hjl : j < (List.map (encC r) xs).flatten.length := by
        have := (List.getElem?_eq_some_iff.1 hj).1
        rw [a7.1] at this; exact this
      rw [List.getElem?_take, if_pos hjl] at hj
      exact ⟨by rw [cell_of_row w b' j cur t (0, 0) a5]; simpa using hj, hnm k _ b' hk ho a1⟩
  have g : GF hg (RB D (1000 * (d + 1)) e w) (RB D (1000 * (d + 1)) e w) e e (gw ++ gs) := by
    refine ⟨fun _ _ _ h => h, fun _ => rfl, fun _ => rfl, fun k hk t r xs wr ho => ?_, fun k hk t cs hti ho => ?_⟩
    · obtain ⟨q1, q2, q3, q4⟩ := hs.ob k _ (hat k _ hk ho)
      rcases q4 with ⟨a1, a2, a, a3⟩ | ⟨b, cap, cur, a1, a2, a3, a4, a5, a6, a7, a8⟩
      · rw [a1, a3]
        exact VR.sl (rows := []) [] (by simp) (by simp) rfl (by simp) (Nat.le_refl _) (Nat.zero_le _) (by simp) (by simp)
      · rw [a2]
        refine VR.sl (cur.toList.take (List.map (encC r) xs).flatten.length) q1 q2 a7.1 (fun j c u hc hu => (a7.2 j c u hc hu).mono hmono) a3 a4 (by simp) (fun _ => ⟨b, 0, rfl, fun j u hj => ?_⟩)
        have hjl : j < (List.map (encC r) xs).flatten.length := by
          have := (List.getElem?_eq_some_iff.1 hj).1
          rw [a7.1] at this; exact this
        rw [List.getElem?_take, if_pos hjl] at hj
        exact ⟨by rw [Nat.zero_add, cell_of_row w b j cur t (0, 0) a5]; simpa using hj, hnm k _ b hk ho a1⟩
    · obtain ⟨q0, b, us', q1, q2, q3⟩ := hs.ob k _ (hat k _ hk ho)
      refine ⟨b, us', q1, ⟨q3.1, fun j c u hc hu => (q3.2 j c u hc hu).mono hmono⟩, fun j u hj => ⟨?_, hnm k _ b hk ho q1⟩⟩
      rw [cell_of_row w b j us'.toArray t (0, 0) (q2.cells hti)]
      simpa using hj
  have hl := deWs_ok (hg := hg) hmono as (by rw [hde]; exact fun k hk => hwin k (by simp at hk ⊢; exact .inl hk)) (by rw [hde]) hl
  rw [hde] at hl
  obtain ⟨a1, a2⟩ := valGs_ok g _ ws hws ha (fun k h => by simp at h ⊢; exact .inr h)
  obtain ⟨r1, r2, r3⟩ := fillPs_ren (piX D (1000 * (d + 1))) c.ps hvv
  rw [hx] at r1 r2 a1 a2
  have hH0 : c.H0 x = fillH c.hs ws := by unfold Ctr.H0; rw [← r2, a1]
  refine ⟨hp, fun p ob hpo => ?_, ?_⟩
  · rw [hH0, hget_enc] at hpo
    obtain ⟨o', ho', rfl⟩ := Option.map_eq_some_iff.1 hpo
    obtain ⟨k, o, y1, y2, y3, y4⟩ := x1 p o' ho'
    refine ⟨k, _, y1, hother k o ⟨p, y1⟩ y2, ?_⟩
    rw [← encO_ren]
    exact y4 _ e w ((hs.ob k _ (hother k o ⟨p, y1⟩ y2)).mono hmono)
  · have := a2 us hl
    rw [r1, args_ren] at this
    exact this
end
theorem encH_del (D : List (Nat × Nat)) : encH (delE D) = hdel D := by
  induction D with
  | nil => rfl
  | cons q D ih => simp only [delE, List.map_cons, encH, hdel, Option.map] at ih ⊢; rw [ih]
mutual
theorem enc_pu : ∀ c : EV, c.pu = true → (enc c).pu = true
  | .un, _ => rfl
  | .sc s x, h => by cases s <;> first | rfl | (simp [EV.pu] at h)
  | .nil, _ => rfl
  | .ts r xs, h => by simp [EV.pu] at h
  | .v x, _ => rfl
  | .ow k, _ => rfl
  | .pt k o, _ => rfl
  | .pe k i sz o, _ => rfl
  | .sw k l n sz, _ => rfl
  | .mp k, _ => rfl
  | .fp cs, h => by simp [EV.pu] at h
  | .ag cs, h => by simp only [EV.pu] at h; simp only [enc, AV.pu]; exact encL_pu cs h
  | .tu cs, h => by simp only [EV.pu] at h; simp only [enc, AV.pu]; exact encL_pu cs h
  | .cl fn fs cs, h => by simp only [EV.pu, Bool.and_eq_true] at h; simp only [enc, AV.pu, encL_pu fs h.1, encL_pu cs h.2]; rfl
theorem encL_pu : ∀ cs : List EV, EV.puL cs = true → AV.puL (encL cs) = true
  | [], _ => rfl
  | c :: cs, h => by simp only [EV.puL, Bool.and_eq_true] at h; simp only [encL, AV.puL, enc_pu c h.1, encL_pu cs h.2]; rfl
end
theorem encC_pu : ∀ (s : Sc) (x : s.Val), s.ns = true → ∀ c ∈ encC s x, c.pu = true
  | .i _, _, _, c, h => by simp only [encC, List.mem_singleton] at h; subst h; rfl
  | .b, _, _, c, h => by simp only [encC, List.mem_singleton] at h; subst h; rfl
  | .sl _, _, hn, c, h => by simp [Sc.ns] at hn
  | .pr a b2, x, hn, c, h => by
    simp only [Sc.ns, Bool.and_eq_true] at hn
    simp only [encC, List.mem_append] at h
    exact h.elim (encC_pu a x.1 hn.1 c) (encC_pu b2 x.2 hn.2 c)
  | .u, _, _, c, h => by simp [encC] at h
theorem puL_all : ∀ {cs : List AV}, (∀ c ∈ cs, c.pu = true) → AV.puL cs = true
  | [], _ => rfl
  | x :: cs, hm => by simp [AV.puL, hm x (by simp), puL_all (cs := cs) fun c hc => hm c (by simp [hc])]
theorem valE_pu (s : Sc) (x : s.Val) (hn : s.ns = true) : (enc (valE s x)).pu = true := by
  cases s with
  | i k => rfl
  | b => rfl
  | sl r => simp [Sc.ns] at hn
  | pr a b2 => simp only [valE, enc, encL_split, AV.pu]; exact puL_all (encC_pu _ _ hn)
  | u => rfl
theorem puH_ok {h : EHp} (hp : puH h = true) : hpPu (encH h) := by
  intro k ob hk
  rw [hget_enc] at hk
  obtain ⟨o, ho, rfl⟩ := Option.map_eq_some_iff.1 hk
  clear hk
  have : o.pu = true := by
    induction h with
    | nil => cases ho
    | cons p h ih =>
      obtain ⟨j, o1⟩ := p
      simp only [puH, List.all_cons, Bool.and_eq_true] at hp
      simp only [ehget] at ho
      by_cases e : k = j
      · subst e
        rw [Nat.beq_refl] at ho
        simp only [cond_true] at ho
        subst ho
        exact hp.1
      · rw [beq_no e] at ho
        exact ih (by simpa [puH] using hp.2) ho
  cases o with
  | box t cs => exact encL_pu cs this
  | arr t r xs wr =>
    intro c hc
    obtain ⟨q, hq, hcq⟩ := List.mem_flatten.1 hc
    obtain ⟨z, _, rfl⟩ := List.mem_map.1 hq
    exact encC_pu r z this c hcq
  | mp d kc vc es =>
    intro p hp
    obtain ⟨q, _, rfl⟩ := List.mem_map.1 hp
    exact valE_pu vc q.2 this
  | nr t r xs ho => cases this
/-- what is entered, and with what -/
def ENE (P : Program) (op : Op) (ev : Nat → EV) (f : FuncId) (as : List EV) : Prop :=
  ∀ (st : St) (d : Nat) (ty : TypeId) (pos : String) (af : Array Edge) (gd : Option (Nat × Bool)), Sk ev st → ENT P ⟨some d, op, ty, pos, af, gd⟩ st f (encL as)
theorem exCtr_ok {c : Ctr} (hc : c.ok P) {op : Op} {as : List EV} (hen : (∀ c ∈ as, c ≠ .un) → ENE P op ev c.f as) {R : Type} {k : EV → EHp → List Nat → Fr → Option R} {r : R} (hd : d < n) (h : exCtr hg d c as k = some (some r)) :
    ∃ e os us fr, FS P ⟨some d, op, ty, pos, af, gd⟩ n ev hg e os us fr ∧ k e os us fr = some r := by
  unfold exCtr at h
  obtain ⟨hne0, h⟩ := cond_none h
  have hne : ∀ c ∈ as, c ≠ .un := fun c hc e => by
    have := List.all_eq_true.1 hne0 c hc
    rw [e] at this; cases this
  have hen := hen hne
  generalize bindH hg c.hs (bindPs c.ps as []) = D at h
  unfold exCtr' at h
  generalize hde : cond c.pu (deWs hg as) (as, [], true) = aw at h
  obtain ⟨as', gw, ck⟩ := aw
  simp only at h
  split at h
  · rename_i vs gs ha
    split at h
    · rename_i ws hw
      split at h
      · rename_i x hx
        have hx := joinT_ok hx
        obtain ⟨hk, h⟩ := cond_none h
        simp only [Bool.and_eq_true] at hk
        obtain ⟨⟨⟨k1, k2⟩, k3⟩, k4⟩ := hk
        have hdd : dstN (D.map (·.2)) = true := by simp only [okD, Bool.and_eq_true] at k1; exact k1.1.2
        have h := Option.some.inj h
        obtain ⟨rfl, h⟩ := cond_none h
        obtain ⟨y, hy, hk⟩ := obind_some h
        obtain ⟨e, H, hel, hHn, hpp0, hrc⟩ := hc.2 x y hy
        rw [hel] at hk
        have hos := lendOs_ok hg (gw ++ gs)
        rcases cond_some hk with ⟨hown, hk⟩ | ⟨hown, hk2⟩
        · obtain ⟨g, h2⟩ := cond_none hk
          simp only [Bool.and_eq_true] at g
          refine ⟨_, _, _, _, fun st hn hs hH hf => ?_, h2⟩
          have hno : ∀ k o, (k, o) ∈ lendOs hg (gw ++ gs) → (Fr.blk (1000 * (d + 1))).p k = false := fun k o hm => by
            cases hp : (Fr.blk (1000 * (d + 1))).p k with
            | false => rfl
            | true =>
              obtain ⟨t, r', xs, wr, e1, _⟩ := hos.1 k o hm
              have e2 := hH.at (by have := hos.2 (k, o) hm; simp at this ⊢; rcases this with this | this <;> simp [this]) e1
              rw [hf.k k hp] at e2
              cases e2
          cases hpu : c.pu with
          | false =>
            rw [hpu] at hde
            simp only [cond_false, Prod.mk.injEq] at hde
            obtain ⟨rfl, rfl, _⟩ := hde
            simp only [List.nil_append] at hos hno
            have hg' := exCtr_gives ha hw hx k2 k3 k4 hpu hdd hH
            have := SS.callX (P := P) (op := op) (ty := ty) (pos := pos) (af := af) (gd := gd) (d := d)
              (K := fun s => s = ⟨st.n, tput (some d) (enc (renE (piX D (1000 * (d + 1))) e)) (tkilp (inB (1000 * (d + 1))) st.t), encH (renEH (piX D (1000 * (d + 1))) H ++ (delE D ++ lendOs hg gs)) ++ hkilp (inB (1000 * (d + 1))) st.h⟩) hrc (hen st d ty pos af gd hs) hg' k1 g.1 g.2 (by omega) (by
              rw [hkilp_os (p := inB (1000 * (d + 1))) (h := st.h) hos.1 hno, encH_append, encH_append, encH_ren, enc_ren, encH_del, List.append_assoc, List.append_assoc]; rfl)
            exact SS.freshB hf.t hf.h hf.k this
          | true =>
            rw [hpu] at hde
            simp only [cond_true] at hde
            have hg' := exCtr_givesP hde ha hw hx k2 k3 hdd hH
            have hpp := hpp0 hpu
            have := SS.callP (P := P) (op := op) (ty := ty) (pos := pos) (af := af) (gd := gd) (d := d)
              (K := fun s => s = ⟨st.n, tput (some d) (enc (renE (piX D (1000 * (d + 1))) e)) (tkilp (inB (1000 * (d + 1))) st.t), encH (renEH (piX D (1000 * (d + 1))) H ++ (delE D ++ [])) ++ hkilp (inB (1000 * (d + 1))) st.h⟩) hrc (enc_pu _ hpp.1) (puH_ok hpp.2) (hen st d ty pos af gd hs) hg' k1 g.1 g.2 (by omega) (by
              rw [encH_append, encH_append, encH_ren, enc_ren, encH_del, List.append_assoc, List.append_assoc]; rfl)
            exact SS.freshB hf.t hf.h hf.k this
        · have hhs := hc.1 hown
          have hHn := hHn hown
          subst hHn
          obtain ⟨g, h2⟩ := cond_none hk2
          simp only [Bool.and_eq_true] at g
          have hD : D = [] := by simpa using g.2
          subst hD
          have hH0 : c.H0 x = [] := by unfold Ctr.H0; rw [hhs]; rfl
          rw [hH0] at hrc
          refine ⟨_, _, _, _, fun st hn hs hH hf => ?_, h2⟩
          have hH' : Hk hg ((gw ++ gs) ++ ([] : List (Nat × Nat)).map (·.2)) st := by simpa using hH
          cases hpu : c.pu with
          | false =>
            rw [hpu] at hde
            simp only [cond_false, Prod.mk.injEq] at hde
            obtain ⟨rfl, rfl, _⟩ := hde
            have hg' := exCtr_gives ha hw hx k2 k3 k4 hpu hdd hH'
            rw [hH0] at hg'
            exact SS.callF hrc (hen st d ty pos af gd hs) hg' g.1 (by omega) rfl
          | true =>
            rw [hpu] at hde
            simp only [cond_true] at hde
            have hg' := exCtr_givesP hde ha hw hx k2 k3 hdd hH'
            rw [hH0] at hg'
            have hpp := hpp0 hpu
            exact SS.callFP hrc (enc_pu _ hpp.1) (hen st d ty pos af gd hs) hg' g.1 (by omega) rfl
      · cases h
    · cases h
  · cases h
theorem exCall_ok {CT : List Ctr} (hCT : ∀ c ∈ CT, c.ok P) {f : FuncId} {op : Op} {as : List EV} (hen : (∀ c ∈ as, c ≠ .un) → ENE P op ev f as) {R : Type} {k : EV → EHp → List Nat → Fr → Option R} {r : R} (hd : d < n) (h : exCall hg d f as k CT = some r) :
    ∃ e os us fr, FS P ⟨some d, op, ty, pos, af, gd⟩ n ev hg e os us fr ∧ k e os us fr = some r := by
  induction CT with
  | nil => cases h
  | cons c cs ih =>
    simp only [exCall] at h
    rcases cond_some h with ⟨h1, h2⟩ | ⟨_, h2⟩
    · have h1 := Nat.eq_of_beq_eq_true h1
      split at h2
      · rename_i rr hr
        subst h1
        subst h2
        exact exCtr_ok (hCT c (by simp)) hen hd hr
      · exact ih (fun c hc => hCT c (by simp [hc])) h2
    · exact ih (fun c hc => hCT c (by simp [hc])) h2
theorem fnE_ok {x : Operand} {f : FuncId} {fs cs : List EV} {args : Array Operand} {ts : Array TypeId} (hx : fnE ev x = some (f, fs, cs)) (hne : ∀ c ∈ fs ++ (args.toList.map (evx ev) ++ cs), c ≠ .un) : ENE P (.call ⟨.value x, args, ts⟩) ev f (fs ++ (args.toList.map (evx ev) ++ cs)) := by
  intro st d ty pos af gd hs
  have hm := ev_map (args := args) hs fun c hc => hne c (by simp only [List.mem_append]; exact .inr (.inl hc))
  rw [encL_append, encL_append, ← hm]
  unfold fnE at hx
  split at hx
  · cases hx
    have := ENT.func (P := P) (d := d) (ty := ty) (pos := pos) (af := af) (gd := gd) (st := st) (f := f) (args := args) (ts := ts)
    simpa only [encL, List.nil_append, List.append_nil] using this
  · rename_i i
    split at hx
    · rename_i g hg'
      cases hx
      have := ENT.val (P := P) (d := d) (ty := ty) (pos := pos) (af := af) (gd := gd) (st := st) (f := f) (args := args) (ts := ts) (hs.is (x := .tmp i) hg' (by intro e; cases e))
      simpa only [encL, List.nil_append, List.append_nil] using this
    · rename_i g fs' cs' hg'
      cases hx
      have := ENT.cl (P := P) (d := d) (ty := ty) (pos := pos) (af := af) (gd := gd) (st := st) (f := f) (args := args) (ts := ts) (hs.is (x := .tmp i) hg' (by intro e; cases e))
      rw [← List.append_assoc]
      exact this
    · cases hx
  · cases hx
theorem exShrink_ok (hT : TOk P T) {t : TypeId} {x : Operand} {lo hi mx : Option Operand} {R : Type} {k : EV → EHp → List Nat → Fr → Option R} {r : R} (hd : d < n) (h : exShrink T ev hg d t x lo hi mx k = some r) :
    ∃ c os us fr, FS P ⟨some d, .slice t x lo hi mx, ty, pos, af, gd⟩ n ev hg c os us fr ∧ k c os us fr = some r := by
  unfold exShrink at h
  split at h
  · rename_i y
    split at h
    · rename_i e sz b z he
      split at h
      · rename_i j hx
        split at h
        · rename_i e' r' xs wr hj
          split at h
          · rename_i hh hi
            obtain ⟨q, h3⟩ := cond_none h
            simp only [Bool.and_eq_true, Bool.not_eq_true'] at q
            obtain ⟨⟨⟨q1, q2⟩, q3⟩, q4⟩ := q
            have q1 := Nat.eq_of_beq_eq_true q1
            subst q1
            have q2 := Nat.eq_of_beq_eq_true q2
            subst q2
            subst q3
            have q4 : d ≠ j := fun e => by rw [e, Nat.beq_refl] at q4; cases q4
            obtain ⟨zs, hz, hk⟩ := obind_some h3
            unfold subI at hz
            split at hz
            · rename_i hb
              obtain rfl := Option.some.inj hz
              refine ⟨_, _, _, _, ?_, hk⟩
              intro st hn hs hH hf
              obtain ⟨kk, hy⟩ := intE_ok hi hs
              obtain ⟨m, rfl⟩ : ∃ m : Nat, hh = (m : Int) := ⟨hh.toNat, by omega⟩
              have := SS.shrinkOw (P := P) (t := t) (x := x) (y := y) (ty := ty) (pos := pos) (af := af) (gd := gd) (d := d) (k := j) (m := m) (rows := List.map (encC r') xs) (K := fun s' => s' = ⟨st.n, tput (some d) (.ow d) (tkill d st.t), ((d, some (.arr e r'.w ((List.map (encC r') xs).take m) true)) :: (j, none) :: []) ++ hkill d st.h⟩)
                (hT.el _ _ he) (hs.is hx (by intro e; cases e)) (hH.at (by simp) hj) hy q4 (by rw [List.length_map]; omega) (by omega) rfl
              have h4 := SS.fresh hf.t hf.h this
              rw [← List.map_take] at h4
              exact h4
            · cases hz
          · cases h
        · cases h
      · cases h
    · cases h
  · cases h
theorem FS.insert {t : TypeId} {x y v : Operand} {c : EV} {os : EHp} {us : List Nat} {fr : Fr} (h : FS P ⟨none, .mapUpdate t x y v, ty, pos, af, gd⟩ n ev hg c os us fr) : FS P ⟨none, .insert t x y v, ty, pos, af, gd⟩ n ev hg c os us fr := by
  intro st h1 h2 h3 h4 w0 Rd0 e a w next Q hga hn
  have := h st h1 h2 h3 h4 w0 Rd0 e a w next Q hga hn
  unfold Oper.wp at this ⊢
  simpa [execOp, Oper.upon] using this
theorem exO_ok {CT : List Ctr} (hT : TOk P T) (hCT : ∀ c ∈ CT, c.ok P) {o : Oper} {R : Type} {k : EV → EHp → List Nat → Fr → Option R} {r : R} (h : exO T CT n ev hg o k = some r) :
    ∃ c os us fr, FS P o n ev hg c os us fr ∧ k c os us fr = some r ∧ ∀ d, o.dst = some d → d < n := by
  obtain ⟨dst, op, ty, pos, af, gd⟩ := o
  unfold exO at h
  split at h
  · rename_i d hdst
    simp only at hdst
    subst hdst
    obtain ⟨h1, h2⟩ := cond_none h
    have hd : d < n := Nat.le_of_ble_eq_true h1
    have hdd : ∀ d', some d = some d' → d' < n := fun d' e => by cases e; exact hd
    have mk : (∃ c os us fr, FS P ⟨some d, op, ty, pos, af, gd⟩ n ev hg c os us fr ∧ k c os us fr = some r) → ∃ c os us fr, FS P ⟨some d, op, ty, pos, af, gd⟩ n ev hg c os us fr ∧ k c os us fr = some r ∧ ∀ d', some d = some d' → d' < n := by
      rintro ⟨c, os, us, fr, a, b⟩
      exact ⟨c, os, us, fr, a, b, hdd⟩
    split at h2
    · rename_i f args ts hop
      simp only at hop
      subst hop
      split at h2
      · rename_i f' fs cs hf
        exact mk (exCall_ok (ty := ty) (pos := pos) (af := af) (gd := gd) hCT (fun hne => fnE_ok hf hne) hd h2)
      · cases h2
    · rename_i hop; simp only at hop; subst hop; exact mk (exM_ok hT hd h2)
    · rename_i hop; simp only at hop; subst hop; exact mk (exM_ok hT hd h2)
    · rename_i hop
      simp only at hop
      subst hop
      rcases cond_some h2 with ⟨_, h2⟩ | ⟨_, h2⟩
      · exact mk (exMakeNr_ok hT hd h2)
      · exact mk (exM_ok hT hd h2)
    · rename_i hop; simp only at hop; subst hop; exact mk (exM_ok hT hd h2)
    · rename_i hop
      simp only at hop
      subst hop
      rcases cond_some h2 with ⟨_, h2⟩ | ⟨_, h2⟩
      · exact mk (exShrink_ok hT hd h2)
      · exact mk (exM_ok hT hd h2)
    · rename_i hop
      simp only at hop
      subst hop
      rcases cond_some h2 with ⟨_, h2⟩ | ⟨_, h2⟩
      · exact mk (exLitT_ok hT hd h2)
      · exact mk (exM_ok hT hd h2)
    · rename_i hop; simp only at hop; subst hop; exact mk (exM_ok hT hd h2)
    · obtain ⟨c, us, a, b⟩ := exR_ok hT h2
      exact mk ⟨c, _, us, _, FS.read a hd, b⟩
  · rename_i hdst
    simp only at hdst
    subst hdst
    split at h
    · rename_i hop; simp only at hop; subst hop
      obtain ⟨os, us, a, b⟩ := exStore_ok (ty := ty) (pos := pos) (af := af) (gd := gd) hT h
      exact ⟨_, _, _, _, a, b, fun d e => by cases e⟩
    · rename_i hop; simp only at hop; subst hop
      obtain ⟨os, us, a, b⟩ := exMapPut_ok (ty := ty) (pos := pos) (af := af) (gd := gd) hT h
      exact ⟨_, _, _, _, a, b, fun d e => by cases e⟩
    · rename_i hop; simp only at hop; subst hop
      obtain ⟨os, us, a, b⟩ := exMapPut_ok (ty := ty) (pos := pos) (af := af) (gd := gd) hT h
      exact ⟨_, _, _, _, FS.insert a, b, fun d e => by cases e⟩
    · cases h
end
end
end Go.Proofs.Ytggnolfcgaglfaa
