/- WholeSteps: the seat's texts as one (3 of 24; printed by wip/prune.py). -/
import Derived.Test.YtpccioglcgobkaaGreatDoorZWholeSteps2
set_option linter.unusedVariables false
set_option linter.unusedSimpArgs false
namespace Go.Proofs.YtpccioglcgobkaaGreatDoor
noncomputable section
open Go Go.RowKit
noncomputable section
@[reducible] def Tup : List Sc → Type
 | [] => Unit
 | [s] => s.Val
 | s :: t :: r => s.Val × Tup (t :: r)
def splitT : (cs : List Sc) → Tup cs → List EV
 | [], _ => []
 | [s], x => [.sc s x]
 | s :: t :: r, x => .sc s x.1 :: splitT (t :: r) x.2
def joinT : (cs : List Sc) → List EV → Option (Tup cs)
 | [], [] => some ()
 | [], _ :: _ => none
 | [s], c :: cs => match c, cs with
  | .sc s' x, [] => castS s' s x
  | _, _ => none
 | s :: t :: r, c :: cs => match c with
  | .sc s' x => match castS s' s x with
   | some a => match joinT (t :: r) cs with
    | some b => some (a, b)
    | none => none
   | none => none
  | _ => none
 | _ :: _, [] => none
theorem joinT_ok : ∀ {cs : List Sc} {l : List EV} {x : Tup cs}, joinT cs l = some x → l = splitT cs x
 | [], [], x, h => rfl
 | [], _ :: _, x, h => by simp [joinT] at h
 | [s], [], x, h => by simp [joinT] at h
 | [s], c :: cs, x, h => by
  simp only [joinT] at h
  split at h
  · obtain ⟨rfl, rfl⟩ := castS_ok h
    rfl
  · cases h
 | s :: t :: r, [], x, h => by simp [joinT] at h
 | s :: t :: r, c :: cs, x, h => by
  simp only [joinT] at h
  split at h
  · split at h
    · rename_i a ha
      split at h
      · rename_i b hb
        obtain ⟨rfl, rfl⟩ := castS_ok ha
        have := joinT_ok hb
        cases h
        rw [this]; rfl
      · cases h
    · cases h
  · cases h
inductive PV where
 | h (s : Sc)
 | t (r : Sc)
 | k (c : EV)
 | ag (l : List PV)
 | tu (l : List PV)
 | fp (l : List PV)
 | cl (fn : Fn) (fs cs : List PV)
def tightE : EV → EV
 | .sc (.sl r) xs => .ts r xs
 | _ => .un
mutual
def fillP : PV → List EV → EV × List EV
 | .h _, cs => (cs.headD .un, cs.tail)
 | .t _, cs => (tightE (cs.headD .un), cs.tail)
 | .k c, cs => (c, cs)
 | .ag l, cs => (.ag (fillPs l cs).1, (fillPs l cs).2)
 | .tu l, cs => (.tu (fillPs l cs).1, (fillPs l cs).2)
 | .fp l, cs => (.fp (fillPs l cs).1, (fillPs l cs).2)
 | .cl fn fs xs, cs => (.cl fn (fillPs fs cs).1 (fillPs xs (fillPs fs cs).2).1, (fillPs xs (fillPs fs cs).2).2)
def fillPs : List PV → List EV → List EV × List EV
 | [], cs => ([], cs)
 | p :: ps, cs => ((fillP p cs).1 :: (fillPs ps (fillP p cs).2).1, (fillPs ps (fillP p cs).2).2)
end
inductive PO where
 | box (t : TypeId) (l : List PV)
 | arr (t : TypeId) (r : Sc) (wr : Bool)
 | mp (d : TypeDesc) (kc vc : Sc)
 | nr (t : TypeId) (r : Sc) (ho : Option (Nat × Nat))
def arrE (t : TypeId) (r : Sc) (wr : Bool) : EV → Option EOb
 | .sc s x => match castS s (.sl r) x with
  | some xs => some (.arr t r xs wr)
  | none => none
 | _ => none
def mpE (d : TypeDesc) (kc vc : Sc) : EV → Option EOb
 | .sc s x => match castS s (.sl (.pr kc vc)) x with
  | some xs => some (.mp d kc vc xs)
  | none => none
 | _ => none
def nrE (t : TypeId) (r : Sc) : EV → Option EOb
 | .sc s x => match castS s (.sl (.sl r)) x with
  | some xs => some (.nr t r xs none)
  | none => none
 | _ => none
def nrE2 (t : TypeId) (r : Sc) (p : Nat) : EV → EV → Option EOb
 | .sc s x, .sc s2 y => match castS s (.sl (.sl r)) x with
  | some xs => match castS s2 (.i .i64) y with
   | some i => some (.nr t r xs (some (i, some p)))
   | none => none
  | none => none
 | _, _ => none
def fillO : PO → List EV → Option EOb × List EV
 | .box t l, cs => (some (.box t (fillPs l cs).1), (fillPs l cs).2)
 | .arr t r wr, cs => (arrE t r wr (cs.headD .un), cs.tail)
 | .mp d kc vc, cs => (mpE d kc vc (cs.headD .un), cs.tail)
 | .nr t r none, cs => (nrE t r (cs.headD .un), cs.tail)
 | .nr t r (some (_, p)), cs => (nrE2 t r p (cs.headD .un) (cs.tail.headD .un), cs.tail.tail)
def fillH : List (Nat × PO) → List EV → EHp
 | [], _ => []
 | (k, o) :: h, cs => (k, (fillO o cs).1) :: fillH h (fillO o cs).2
structure Ctr where
 f : FuncId
 ps : List PV
 hs : List (Nat × PO)
 cs : List Sc
 α : Type
 M : Tup cs → Option α
 el : α → (R : Type) → (EV → EHp → Option R) → Option R
 own : Bool
 pu : Bool
def Ctr.as (c : Ctr) (x : Tup c.cs) : List EV := (fillPs c.ps (splitT c.cs x)).1
def Ctr.H0 (c : Ctr) (x : Tup c.cs) : EHp := fillH c.hs (fillPs c.ps (splitT c.cs x)).2
def Sc.ns : Sc → Bool
 | .sl _ => false
 | .pr x y => x.ns && y.ns
 | .i _ => true
 | .b => true
 | .u => true
mutual
def EV.pu : EV → Bool
 | .un => true
 | .sc s x => match s with
  | .sl _ => false
  | _ => true
 | .nil => true
 | .ts r xs => false
 | .v x => true
 | .ow k => true
 | .pt k o => true
 | .pe k i sz o => true
 | .sw k l n sz => true
 | .mp k => true
 | .fp cs => false
 | .ag cs => EV.puL cs
 | .tu cs => EV.puL cs
 | .cl fn fs cs => EV.puL fs && EV.puL cs
def EV.puL : List EV → Bool
 | [] => true
 | c :: cs => EV.pu c && EV.puL cs
end
def EOb.pu : EOb → Bool
 | .box t cs => EV.puL cs
 | .arr t r xs wr => r.ns
 | .mp d kc vc es => vc.ns
 | .nr _ _ _ _ => false
def puH (h : EHp) : Bool := h.all fun p => match p.2 with
 | some o => o.pu
 | none => true
def Ctr.ok (P : Program) (c : Ctr) : Prop :=
 (c.own = false → c.hs = []) ∧ ∀ x y, c.M x = some y → ∃ e H, (∀ (R : Type) (k : EV → EHp → Option R), c.el y R k = k e H) ∧ (c.own = false → H = []) ∧ (c.pu = true → e.pu = true ∧ puH H = true) ∧
  RCX P c.f (encH (c.H0 x)) (encL (c.as x)) (encH H) (enc e)
mutual
def renE (π : Nat → Nat) : EV → EV
 | .un => .un
 | .sc s x => .sc s x
 | .nil => .nil
 | .ts r xs => .ts r xs
 | .v x => .v x
 | .ow k => .ow (π k)
 | .pt k o => .pt (π k) o
 | .pe k i sz o => .pe (π k) i sz o
 | .sw k l n sz => .sw (π k) l n sz
 | .mp k => .mp (π k)
 | .fp cs => .fp cs
 | .ag cs => .ag (renEs π cs)
 | .tu cs => .tu (renEs π cs)
 | .cl fn fs cs => .cl fn (renEs π fs) (renEs π cs)
def renEs (π : Nat → Nat) : List EV → List EV
 | [] => []
 | c :: cs => renE π c :: renEs π cs
end
mutual
theorem enc_ren (π : Nat → Nat) : ∀ c : EV, enc (renE π c) = (enc c).ren π
 | .un => rfl
 | .sc s x => by cases s <;> rfl
 | .nil => rfl
 | .ts r xs => rfl
 | .v x => rfl
 | .ow k => rfl
 | .pt k o => rfl
 | .pe k i sz o => rfl
 | .sw k l n sz => rfl
 | .mp k => rfl
 | .fp cs => rfl
 | .ag cs => by simp only [renE, enc, AV.ren, encL_ren π cs]
 | .tu cs => by simp only [renE, enc, AV.ren, encL_ren π cs]
 | .cl fn fs cs => by simp only [renE, enc, AV.ren, encL_ren π cs, encL_ren π fs]
theorem encL_ren (π : Nat → Nat) : ∀ cs : List EV, encL (renEs π cs) = AV.renL π (encL cs)
 | [] => rfl
 | c :: cs => by simp only [renEs, encL, AV.renL, enc_ren π c, encL_ren π cs]
end
def renHo (π : Nat → Nat) : Option (Int × Option Nat) → Option (Int × Option Nat)
 | some (i, some j) => some (i, some (π j))
 | o => o
def renO (π : Nat → Nat) : EOb → EOb
 | .box t cs => .box t (renEs π cs)
 | .arr t r xs wr => .arr t r xs wr
 | .mp d kc vc es => .mp d kc vc es
 | .nr t r xs ho => .nr t r xs (renHo π ho)
theorem nrA_ren (π : Nat → Nat) (r : Sc) (x : List r.Val) : (nrA r x).ren π = nrA r x := by cases x <;> rfl
theorem nrC_ren (π : Nat → Nat) (r : Sc) (xs : List (List r.Val)) (ho : Option (Int × Option Nat)) : nrC r xs (renHo π ho) = AV.renL π (nrC r xs ho) := by
 have h0 : (xs.map (nrA r)).map (AV.ren π) = xs.map (nrA r) := by
  rw [List.map_map]
  exact List.map_congr_left fun x _ => nrA_ren π r x
 rw [renL_map]
 match ho with
 | none => exact h0.symm
 | some (i, none) => simp only [renHo, nrC, List.map_set, h0]; rfl
 | some (i, some j) => simp only [renHo, nrC, List.map_set, h0]; rfl
theorem encO_ren (π : Nat → Nat) (o : EOb) : encO (renO π o) = (encO o).ren π := by
 cases o with
 | box t cs => simp only [renO, encO, Ob.ren, encL_ren]
 | arr => rfl
 | mp => rfl
 | nr t r xs ho => simp only [renO, encO, Ob.ren, nrC_ren]
def renEH (π : Nat → Nat) : EHp → EHp
 | [] => []
 | (k, o) :: h => (π k, match o with
  | some o => some (renO π o)
  | none => none) :: renEH π h
theorem encH_ren (π : Nat → Nat) : ∀ h : EHp, encH (renEH π h) = hren π (encH h)
 | [] => rfl
 | (k, o) :: h => by
  have : ∀ o : EOb, encO (renO π o) = (encO o).ren π := encO_ren π
  cases o with
  | none => simp only [renEH, encH, hren, Option.map, encH_ren π h]
  | some o => simp only [renEH, encH, hren, Option.map, encH_ren π h, this]
mutual
def renP (π : Nat → Nat) : PV → PV
 | .h s => .h s
 | .t r => .t r
 | .k c => .k (renE π c)
 | .ag l => .ag (renPs π l)
 | .tu l => .tu (renPs π l)
 | .fp l => .fp l
 | .cl fn fs cs => .cl fn (renPs π fs) (renPs π cs)
def renPs (π : Nat → Nat) : List PV → List PV
 | [] => []
 | p :: ps => renP π p :: renPs π ps
end
def renPO (π : Nat → Nat) : PO → PO
 | .box t l => .box t (renPs π l)
 | .arr t r wr => .arr t r wr
 | .mp d kc vc => .mp d kc vc
 | .nr t r none => .nr t r none
 | .nr t r (some (s, p)) => .nr t r (some (s, π p))
def bindD (p k : Nat) (D : List (Nat × Nat)) : List (Nat × Nat) := cond (Nat.ble 4294967296 p) (match asc D p with
 | some _ => D
 | none => D ++ [(p, k)]) D
mutual
def bindP : PV → EV → List (Nat × Nat) → List (Nat × Nat)
 | .h _, _, D => D
 | .t _, _, D => D
 | .k c0, c, D => match c0, c with
  | .ow p, .ow k => bindD p k D
  | .pt p _, .pt k _ => bindD p k D
  | .mp p, .mp k => bindD p k D
  | _, _ => D
 | .ag l, c, D => match c with
  | .ag cs => bindPs l cs D
  | _ => D
 | .tu _, _, D => D
 | .fp _, _, D => D
 | .cl _ fs xs, c, D => match c with
  | .cl _ fs' xs' => bindPs xs xs' (bindPs fs fs' D)
  | _ => D
def bindPs : List PV → List EV → List (Nat × Nat) → List (Nat × Nat)
 | [], _, D => D
 | p :: ps, cs, D => match cs with
  | [] => D
  | c :: cs => bindPs ps cs (bindP p c D)
end
def bindH (hg : Nat → Option EOb) : List (Nat × PO) → List (Nat × Nat) → List (Nat × Nat)
 | [], D => D
 | (p, po) :: hs, D => bindH hg hs (match po with
  | .box _ l => match asc D p with
   | some k => match hg k with
    | some (.box _ cs) => bindPs l cs D
    | _ => D
   | none => D
  | _ => D)
def giveS (hg : Nat → Option EOb) (s : Sc) : EV → Option (s.Val × List Nat)
 | .ow k => match hg k with
  | some (.arr _ r xs _) => match castS (.sl r) s xs with
   | some y => some (y, [k])
   | none => none
  | _ => none
 | c => match asS s c with
  | some y => some (y, [])
  | none => none
def sameE : EV → EV → Bool
 | .un, _ => true
 | .nil, .nil => true
 | .ow a, .ow b => Nat.beq a b
 | .pt a o, .pt b q => Nat.beq a b && Nat.beq o q
 | .mp a, .mp b => Nat.beq a b
 | .v (.func (.func f) ⟨[]⟩ ⟨[]⟩), .v (.func (.func g) ⟨[]⟩ ⟨[]⟩) => Nat.beq f g
 | _, _ => false
theorem sameE_ok {a b : EV} (h : sameE a b = true) : Wk (enc b) (enc a) := by
 unfold sameE at h
 split at h
 · exact Wk.un
 · exact Wk.refl _
 · rw [Nat.eq_of_beq_eq_true h]; exact Wk.refl _
 · simp only [Bool.and_eq_true] at h
   rw [Nat.eq_of_beq_eq_true h.1, Nat.eq_of_beq_eq_true h.2]; exact Wk.refl _
 · rw [Nat.eq_of_beq_eq_true h]; exact Wk.refl _
 · rw [Nat.eq_of_beq_eq_true h]; exact Wk.refl _
 · cases h
def closedK : EV → Bool
 | .un => true
 | .nil => true
 | .v _ => true
 | _ => false
def closedP : PV → Bool
 | .h _ => true
 | .t _ => true
 | .k c => closedK c
 | _ => false
def fnB : Fn → Fn → Bool
 | .func f, .func g => Nat.beq f g
 | _, _ => false
theorem fnB_ok {a b : Fn} (h : fnB a b = true) : a = b := by
 unfold fnB at h
 split at h
 · rw [Nat.eq_of_beq_eq_true h]
 · cases h
theorem Wk.fp {cs cs' : List AV} (h : WkL cs cs') : Wk (.fp cs) (.fp cs') := by
 intro Rd E u hv
 cases hv with
 | fp us hl hc ha =>
  have hlr : LR (VR Rd none) cs us := ⟨hl, hc⟩
  have := h.lr hlr
  exact .fp us this.1 this.2 ha
theorem Wk.cl {fn : Fn} {fs fs' cs cs' : List AV} (h : WkL fs fs') (k : WkL cs cs') : Wk (.cl fn fs cs) (.cl fn fs' cs') := by
 intro Rd E u hv
 cases hv with
 | cl us xs hl hl2 hc hc2 =>
  have h1 : LR (VR Rd E) fs us := ⟨hl, hc⟩
  have h2 : LR (VR Rd E) cs xs := ⟨hl2, hc2⟩
  have h1 := h.lr h1
  have h2 := k.lr h2
  exact .cl us xs h1.1 h2.1 h1.2 h2.2
mutual
def valV : PV → EV → Option (List EV)
 | .h s, c => match asS s c with
  | some x => some [.sc s x]
  | none => none
 | .t r, c => match c with
  | .ts r' xs => match castS (.sl r') (.sl r) xs with
   | some ys => some [.sc (.sl r) ys]
   | none => none
  | .nil => some [.sc (.sl r) (show List r.Val from [])]
  | _ => none
 | .k c0, c => cond (sameE c0 c) (some []) none
 | .ag l, c => match c with
  | .ag cs => valVs l cs
  | _ => none
 | .tu l, c => match c with
  | .tu cs => valVs l cs
  | _ => none
 | .fp l, c => match c with
  | .fp cs => valVs l cs
  | _ => none
 | .cl fn fs xs, c => match c with
  | .cl fn' fs' xs' => cond (fnB fn fn') (match valVs fs fs' with
   | some a => match valVs xs xs' with
    | some b => some (a ++ b)
    | none => none
   | none => none) none
  | _ => none
def valVs : List PV → List EV → Option (List EV)
 | [], cs => match cs with
  | [] => some []
  | _ :: _ => none
 | p :: ps, cs => match cs with
  | [] => none
  | c :: cs => match valV p c with
   | some a => match valVs ps cs with
    | some b => some (a ++ b)
    | none => none
   | none => none
end
mutual
theorem valV_ok : ∀ (p : PV) {c : EV} {hs : List EV} (rest : List EV), valV p c = some hs → (fillP p (hs ++ rest)).2 = rest ∧ Wk (enc c) (enc (fillP p (hs ++ rest)).1)
 | .h s, c, hs, rest, h => by
  simp only [valV] at h
  split at h
  · rename_i x hx
    cases h
    exact ⟨rfl, asS_ok hx⟩
  · cases h
 | .t r, c, hs, rest, h => by
  simp only [valV] at h
  split at h
  · split at h
    · rename_i ys hy
      cases h
      obtain ⟨e, rfl⟩ := castS_ok hy
      cases e
      exact ⟨rfl, Wk.refl _⟩
    · cases h
  · cases h
    exact ⟨rfl, Wk.empty'⟩
  · cases h
 | .k c0, c, hs, rest, h => by
  simp only [valV] at h
  obtain ⟨h1, h2⟩ := cond_none h
  cases h2
  exact ⟨rfl, sameE_ok h1⟩
 | .ag l, c, hs, rest, h => by
  simp only [valV] at h
  split at h
  · obtain ⟨a, b⟩ := valVs_ok l rest h
    exact ⟨a, Wk.ag b⟩
  · cases h
 | .tu l, c, hs, rest, h => by
  simp only [valV] at h
  split at h
  · obtain ⟨a, b⟩ := valVs_ok l rest h
    exact ⟨a, Wk.tu b⟩
  · cases h
 | .fp l, c, hs, rest, h => by
  simp only [valV] at h
  split at h
  · obtain ⟨a, b⟩ := valVs_ok l rest h
    exact ⟨a, Wk.fp b⟩
  · cases h
 | .cl fn fs xs, c, hs, rest, h => by
  simp only [valV] at h
  split at h
  · obtain ⟨h1, h2⟩ := cond_none h
    obtain rfl := fnB_ok h1
    split at h2
    · rename_i a ha
      split at h2
      · rename_i b hb
        cases h2
        obtain ⟨a1, a2⟩ := valVs_ok fs (b ++ rest) ha
        obtain ⟨b1, b2⟩ := valVs_ok xs rest hb
        simp only [fillP, List.append_assoc, a1]
        exact ⟨b1, Wk.cl a2 b2⟩
      · cases h2
    · cases h2
  · cases h
theorem valVs_ok : ∀ (ps : List PV) {cs : List EV} {hs : List EV} (rest : List EV), valVs ps cs = some hs → (fillPs ps (hs ++ rest)).2 = rest ∧ WkL (encL cs) (encL (fillPs ps (hs ++ rest)).1)
 | [], cs, hs, rest, h => by
  simp only [valVs] at h
  split at h
  · cases h
    exact ⟨rfl, .nil⟩
  · cases h
 | p :: ps, cs, hs, rest, h => by
  simp only [valVs] at h
  split at h
  · cases h
  · rename_i c cs
    split at h
    · rename_i a ha
      split at h
      · rename_i b hb
        cases h
        have h1 := valV_ok p (b ++ rest) ha
        have h2 := valVs_ok ps rest hb
        simp only [fillPs, List.append_assoc, h1.1]
        exact ⟨h2.1, .cons h1.2 h2.2⟩
      · cases h
    · cases h
end
def valO : PO → EOb → Option (List EV)
 | .box t l, .box t' cs => cond (Nat.beq t t') (valVs l cs) none
 | .arr t r wr, .arr t' r' xs wr' => cond (Nat.beq t t' && (!wr || wr')) (match castS (.sl r') (.sl r) xs with
  | some ys => some [.sc (.sl r) ys]
  | none => none) none
 | .mp d kc vc, .mp d' kc' vc' es => cond (keyOk d kc && keyOk d' kc) (match castS (.sl (.pr kc' vc')) (.sl (.pr kc vc)) es with
  | some ys => some [.sc (.sl (.pr kc vc)) ys]
  | none => none) none
 | .nr t r none, .nr t' r' xs none => cond (Nat.beq t t') (match castS (.sl (.sl r')) (.sl (.sl r)) xs with
  | some ys => some [.sc (.sl (.sl r)) ys]
  | none => none) none
 | .nr t r (some (_, p)), .nr t' r' xs (some (i, some q)) => cond (Nat.beq t t' && Nat.beq p q) (match castS (.sl (.sl r')) (.sl (.sl r)) xs with
  | some ys => some [.sc (.sl (.sl r)) ys, .sc (.i .i64) i]
  | none => none) none
 | .arr t r wr, .nr t' r' xs none => cond (Nat.beq t t') (match castS (.sl (.sl r')) (.sl r) xs with
  | some ys => some [.sc (.sl r) ys]
  | none => none) none
 | _, _ => none
theorem nrA_wk (r : Sc) : ∀ xs : List (List r.Val), WkR ((xs.map (nrA r)).map fun c => [c]) (List.map (encC (.sl r)) xs)
 | [] => .nil
 | x :: xs => by
  refine .cons (.cons ?_ .nil) (nrA_wk r xs)
  cases x with
  | nil => exact Wk.empty rfl
  | cons y ys => exact Wk.refl _
theorem OR.wkBox {Rd : Nat → Nat → Value → Prop} {e : Env} {w : World} {k : Nat} {t : TypeId} {cs cs' : List AV} (hw : WkL cs cs') (h : OR Rd e w k (.box t cs)) : OR Rd e w k (.box t cs') := by
 obtain ⟨a, b, us, h1, h2, h3⟩ := h
 exact ⟨a, b, us, h1, h2, hw.lr h3⟩
theorem castS_self (s : Sc) (x : s.Val) : castS s s x = some x := by
 have key : ∀ s : Sc, Sc.eqP s s = some ⟨rfl⟩ := by
  intro s
  induction s with
  | i k => simp [Sc.eqP]
  | b => rfl
  | sl r ih => simp [Sc.eqP, ih]
  | pr a b2 iha ihb => simp [Sc.eqP, iha, ihb]
  | u => rfl
 unfold castS
 rw [key]
theorem valO_ok (p : PO) {o : EOb} {hs : List EV} (rest : List EV) (h : valO p o = some hs) : (fillO p (hs ++ rest)).2 = rest ∧ ∃ o', (fillO p (hs ++ rest)).1 = some o' ∧ ∀ Rd e w k, OR Rd e w k (encO o) → OR Rd e w k (encO o') := by
 unfold valO at h
 split at h
 · rename_i t l t' cs
   obtain ⟨h1, h2⟩ := cond_none h
   have h1 := Nat.eq_of_beq_eq_true h1
   subst h1
   obtain ⟨a, b⟩ := valVs_ok l rest h2
   exact ⟨a, _, rfl, fun Rd e w k ho => OR.wkBox b ho⟩
 · rename_i t r wr t' r' xs wr'
   obtain ⟨h1, h2⟩ := cond_none h
   simp only [Bool.and_eq_true] at h1
   have h3 := Nat.eq_of_beq_eq_true h1.1
   subst h3
   split at h2
   · rename_i ys hy
     cases h2
     obtain ⟨e1, rfl⟩ := castS_ok hy
     cases e1
     refine ⟨rfl, .arr t r xs wr, ?_, fun Rd e w k ho => ?_⟩
     · simp only [fillO, List.singleton_append, List.headD_cons, arrE, castS_self]
     · obtain ⟨a1, a2, a3, a4⟩ := ho
       refine ⟨a1, a2, fun hw => a3 ?_, a4⟩
       have := h1.2
       rw [hw] at this
       simpa using this
   · cases h2
 · rename_i d kc vc d' kc' vc' es
   obtain ⟨h1, h2⟩ := cond_none h
   simp only [Bool.and_eq_true] at h1
   have h3 := keyOk_eq h1.1 h1.2
   subst h3
   split at h2
   · rename_i ys hy
     cases h2
     obtain ⟨e1, rfl⟩ := castS_ok hy
     cases e1
     refine ⟨rfl, .mp d kc vc es, ?_, fun Rd e w k ho => ho⟩
     simp only [fillO, List.singleton_append, List.headD_cons, mpE, castS_self]
   · cases h2
 · rename_i t r t' r' xs
   obtain ⟨h1, h2⟩ := cond_none h
   have h3 := Nat.eq_of_beq_eq_true h1
   subst h3
   split at h2
   · rename_i ys hy
     cases h2
     obtain ⟨e1, rfl⟩ := castS_ok hy
     cases e1
     refine ⟨rfl, .nr t r xs none, ?_, fun Rd e w k ho => ho⟩
     simp only [fillO, List.singleton_append, List.headD_cons, nrE, castS_self]
   · cases h2
 · rename_i t r s p t' r' xs i q
   obtain ⟨h1, h2⟩ := cond_none h
   simp only [Bool.and_eq_true] at h1
   have h3 := Nat.eq_of_beq_eq_true h1.1
   have h4 := Nat.eq_of_beq_eq_true h1.2
   subst h3
   subst h4
   split at h2
   · rename_i ys hy
     cases h2
     obtain ⟨e1, rfl⟩ := castS_ok hy
     cases e1
     refine ⟨rfl, .nr t r xs (some (i, some p)), ?_, fun Rd e w k ho => ho⟩
     simp only [fillO, List.cons_append, List.nil_append, List.headD_cons, List.tail_cons, nrE2, castS_self]
   · cases h2
 · rename_i t r wr t' r' xs
   obtain ⟨h1, h2⟩ := cond_none h
   have h3 := Nat.eq_of_beq_eq_true h1
   subst h3
   split at h2
   · rename_i ys hy
     cases h2
     obtain ⟨e1, rfl⟩ := castS_ok hy
     cases e1
     refine ⟨rfl, .arr t (.sl r') xs wr, ?_, fun Rd e w k ho => ?_⟩
     · simp only [fillO, List.singleton_append, List.headD_cons, arrE, castS_self]
     · have h5 : OR Rd e w k (.nr t (xs.map (nrA r'))) := ho
       refine (h5.ofNr (fun c hc => ?_) (fun c hc => ?_) wr).wkRow (nrA_wk r' xs) (fun c hc => ?_)
       · obtain ⟨x, _, rfl⟩ := List.mem_map.1 hc
         cases x <;> rfl
       · obtain ⟨x, _, rfl⟩ := List.mem_map.1 hc
         cases x <;> rfl
       · exact enc_rows_one (.sl r') xs c hc
   · cases h2
 · cases h
mutual
def valG (hg : Nat → Option EOb) (bo : Bool) : PV → EV → Option (List EV × List Nat)
 | .h s, c => match giveS hg s c with
  | some (x, gs) => some ([.sc s x], gs)
  | none => none
 | .t r, c => match c with
  | .ts r' xs => match castS (.sl r') (.sl r) xs with
   | some ys => some ([.sc (.sl r) ys], [])
   | none => none
  | .nil => some ([.sc (.sl r) (show List r.Val from [])], [])
  | _ => none
 | .k c0, c => cond (sameE c0 c) (some ([], [])) none
 | .ag l, c => match c with
  | .ag cs => valGs hg bo l cs
  | _ => none
 | .tu _, _ => none
 | .fp l, c => match c with
  | .fp cs => cond (l.all closedP) (match valGs hg bo l cs with
   | some (vs, []) => some (vs, [])
   | _ => none) none
  | .pt k o => cond (bo && Nat.beq o 0 && l.all closedP) (match hg k with
   | some (.box t cs) => cond (!(Nat.beq t itT)) (match valGs hg bo l cs with
    | some (vs, gs) => some (vs, k :: gs)
    | none => none) none
   | _ => none) none
  | _ => none
 | .cl fn fs xs, c => match c with
  | .cl fn' fs' xs' => cond (fnB fn fn') (match valGs hg bo fs fs' with
   | some (a, g1) => match valGs hg bo xs xs' with
    | some (b, g2) => some (a ++ b, g1 ++ g2)
    | none => none
   | none => none) none
  | _ => none
def valGs (hg : Nat → Option EOb) (bo : Bool) : List PV → List EV → Option (List EV × List Nat)
 | [], cs => match cs with
  | [] => some ([], [])
  | _ :: _ => none
 | p :: ps, cs => match cs with
  | [] => none
  | c :: cs => match valG hg bo p c with
   | some (a, g1) => match valGs hg bo ps cs with
    | some (b, g2) => some (a ++ b, g1 ++ g2)
    | none => none
   | none => none
end
def Vals (cs : List EV) : Prop := ∀ c ∈ cs, ∃ s x, c = EV.sc s x
theorem splitT_vals : ∀ (cs : List Sc) (x : Tup cs), Vals (splitT cs x)
 | [], _ => fun c h => by cases h
 | [s], x => fun c h => by simp only [splitT, List.mem_singleton] at h; exact ⟨_, _, h⟩
 | s :: t :: r, x => fun c h => by
  simp only [splitT] at h
  rcases List.mem_cons.1 h with h | h
  · exact ⟨_, _, h⟩
  · exact splitT_vals (t :: r) x.2 c h
theorem Vals.tail {cs : List EV} (h : Vals cs) : Vals cs.tail := fun c hc => h c (List.mem_of_mem_tail hc)
theorem ren_head (π : Nat → Nat) {cs : List EV} (h : Vals cs) : renE π (cs.headD .un) = cs.headD .un := by
 cases cs with
 | nil => rfl
 | cons c cs => obtain ⟨s, x, rfl⟩ := h c (by simp); rfl
theorem ren_tight (π : Nat → Nat) {cs : List EV} (h : Vals cs) : renE π (tightE (cs.headD .un)) = tightE (cs.headD .un) := by
 cases cs with
 | nil => rfl
 | cons c cs =>
  obtain ⟨s, x, rfl⟩ := h c (by simp)
  cases s <;> rfl
mutual
theorem fillP_ren (π : Nat → Nat) : ∀ (p : PV) {cs : List EV}, Vals cs → (fillP (renP π p) cs).1 = renE π (fillP p cs).1 ∧ (fillP (renP π p) cs).2 = (fillP p cs).2 ∧ Vals (fillP p cs).2
 | .h s, cs, h => ⟨(ren_head π h).symm, rfl, h.tail⟩
 | .t r, cs, h => ⟨(ren_tight π h).symm, rfl, h.tail⟩
 | .k c, cs, h => ⟨rfl, rfl, h⟩
 | .ag l, cs, h => by
  obtain ⟨a, b, c⟩ := fillPs_ren π l h
  exact ⟨by simp only [renP, fillP, renE, a], by simp only [renP, fillP, b], c⟩
 | .tu l, cs, h => by
  obtain ⟨a, b, c⟩ := fillPs_ren π l h
  exact ⟨by simp only [renP, fillP, renE, a], by simp only [renP, fillP, b], c⟩
 | .fp l, cs, h => ⟨rfl, rfl, (fillPs_ren π l h).2.2⟩
 | .cl fn fs xs, cs, h => by
  obtain ⟨a, b, c⟩ := fillPs_ren π fs h
  obtain ⟨a2, b2, c2⟩ := fillPs_ren π xs c
  exact ⟨by simp only [renP, fillP, renE, a, b, a2], by simp only [renP, fillP, b, b2], c2⟩
theorem fillPs_ren (π : Nat → Nat) : ∀ (ps : List PV) {cs : List EV}, Vals cs → (fillPs (renPs π ps) cs).1 = renEs π (fillPs ps cs).1 ∧ (fillPs (renPs π ps) cs).2 = (fillPs ps cs).2 ∧ Vals (fillPs ps cs).2
 | [], cs, h => ⟨rfl, rfl, h⟩
 | p :: ps, cs, h => by
  obtain ⟨a, b, c⟩ := fillP_ren π p h
  obtain ⟨a2, b2, c2⟩ := fillPs_ren π ps c
  exact ⟨by simp only [renPs, fillPs, renEs, a, b, a2], by simp only [renPs, fillPs, b, b2], c2⟩
end
theorem VR.close {Rd : Nat → Nat → Value → Prop} {E : Option Env} {c : AV} {u : Value} (h : VR Rd E c u) (hn : c.nom (fun _ => true) = true) : VR Rd none c u := by
 induction h with
 | un => exact .un
 | v => exact .v
 | sl us hw h1c hl hc h1 h2 h3 ha ih => exact .sl us hw h1c hl hc h1 h2 h3 ha
 | ow => simp [AV.nom] at hn
 | pt => simp [AV.nom] at hn
 | pe => simp [AV.nom] at hn
 | sw => simp [AV.nom] at hn
 | fp us hl hc ha ih => exact .fp us hl hc ha
 | ag us hl hc ih => exact .ag us hl fun j c u h1 h2 => ih j c u h1 h2 (nomL_get (by simpa [AV.nom] using hn) j c h1)
 | tu us hl hc ih => exact .tu us hl fun j c u h1 h2 => ih j c u h1 h2 (nomL_get (by simpa [AV.nom] using hn) j c h1)
 | mp => simp [AV.nom] at hn
 | cl us xs hl hl2 hc hc2 ih ih2 =>
  simp only [AV.nom, Bool.and_eq_true] at hn
  exact .cl us xs hl hl2 (fun j c u h1 h2 => ih j c u h1 h2 (nomL_get hn.1 j c h1)) (fun j c u h1 h2 => ih2 j c u h1 h2 (nomL_get hn.2 j c h1))
theorem encS_nom (s : Sc) (x : s.Val) (p : Nat → Bool) : (encS s x).nom p = true := by cases s <;> rfl
theorem tightE_nom (c : EV) (hc : c = .un ∨ ∃ s x, c = EV.sc s x) (p : Nat → Bool) : (enc (tightE c)).nom p = true := by
 rcases hc with rfl | ⟨s, x, rfl⟩
 · rfl
 · cases s <;> rfl
theorem head_vals {cs : List EV} (h : Vals cs) : cs.headD .un = .un ∨ ∃ s x, cs.headD .un = EV.sc s x := by
 cases cs with
 | nil => exact .inl rfl
 | cons c cs => exact .inr (h c (by simp))
theorem closedP_nom {p : PV} (hp : closedP p = true) {cs : List EV} (h : Vals cs) : (enc (fillP p cs).1).nom (fun _ => true) = true := by
 cases p with
 | h s =>
  rcases head_vals h with e | ⟨s', x, e⟩
  · simp only [fillP, e]; rfl
  · simp only [fillP, e]; exact encS_nom _ _ _
 | t r => exact tightE_nom _ (head_vals h) _
 | k c => cases c <;> first | rfl | (simp [closedP, closedK] at hp)
 | _ => simp [closedP] at hp
theorem closedPs_nom : ∀ {ps : List PV} (_ : ps.all closedP = true) {cs : List EV}, Vals cs → ∀ c ∈ encL (fillPs ps cs).1, c.nom (fun _ => true) = true
 | [], _, cs, h, c, hc => by cases hc
 | p :: ps, hp, cs, h, c, hc => by
  simp only [List.all_cons, Bool.and_eq_true] at hp
  simp only [fillPs, encL] at hc
  rcases List.mem_cons.1 hc with rfl | hc
  · exact closedP_nom hp.1 h
  · exact closedPs_nom hp.2 (fillP_ren id p h).2.2 c hc
section
variable {hg : Nat → Option EOb} {bo : Bool} {R1 R2 : Nat → Nat → Value → Prop} {e e1 : Env} {gF : List Nat}
structure GF (hg : Nat → Option EOb) (R1 R2 : Nat → Nat → Value → Prop) (e e1 : Env) (gF : List Nat) : Prop where
 mono : ∀ b o u, R1 b o u → R2 b o u
 blk : ∀ j, e1.blk j = e.blk j
 sv : ∀ j, e1.sv j = e.sv j
 row : ∀ k, gF.contains k = true → ∀ t r xs wr, hg k = some (.arr t r xs wr) → VR R2 none (.sl false r.w (List.map (encC r) xs)) (e.sv k)
 box : ∀ k, gF.contains k = true → ∀ t cs, t ≠ itT → hg k = some (.box t cs) → ∃ b us, e.blk k = some b ∧ LR (VR R1 (some e)) (encL cs) us ∧ ∀ (j : Nat) u, us[j]? = some u → R2 b j u
theorem GF.carry (g : GF hg R1 R2 e e1 gF) {c : AV} {u : Value} (h : VR R1 (some e) c u) : VR R2 (some e1) c u := (h.mono g.mono).envEq rfl g.blk g.sv
theorem giveS_ok (g : GF hg R1 R2 e e1 gF) {s : Sc} {c : EV} {x : s.Val} {gs : List Nat} (h : giveS hg s c = some (x, gs)) (hgs : ∀ k, gs.contains k = true → gF.contains k = true) {u : Value} (hv : VR R1 (some e) (enc c) u) : VR R2 (some e1) (encS s x) u := by
 unfold giveS at h
 split at h
 · rename_i k
   split at h
   · rename_i t r xs wr hk
     split at h
     · rename_i y hy
       cases h
       obtain ⟨rfl, rfl⟩ := castS_ok hy
       cases hv
       exact (g.row k (hgs k (by simp)) t r _ wr hk).some_of_none
     · cases h
   · cases h
 · split at h
   · rename_i y hy
     cases h
     exact asS_ok hy _ _ _ (g.carry hv)
   · cases h
mutual
theorem valG_vals : ∀ (p : PV) {c : EV} {hs : List EV} {gs : List Nat}, valG hg bo p c = some (hs, gs) → Vals hs
 | .h s, c, hs, gs, h => by
  simp only [valG] at h
  split at h
  · cases h
    intro c hc; simp only [List.mem_singleton] at hc; exact ⟨_, _, hc⟩
  · cases h
 | .t r, c, hs, gs, h => by
  simp only [valG] at h
  split at h
  · split at h
    · cases h
      intro c hc; simp only [List.mem_singleton] at hc; exact ⟨_, _, hc⟩
    · cases h
  · cases h
    intro c hc; simp only [List.mem_singleton] at hc; exact ⟨_, _, hc⟩
  · cases h
 | .k c0, c, hs, gs, h => by
  simp only [valG] at h
  obtain ⟨_, h2⟩ := cond_none h
  cases h2
  intro c hc; cases hc
 | .ag l, c, hs, gs, h => by
  simp only [valG] at h
  split at h
  · exact valGs_vals l h
  · cases h
 | .tu l, c, hs, gs, h => by simp [valG] at h
 | .fp l, c, hs, gs, h => by
  simp only [valG] at h
  split at h
  · obtain ⟨_, h2⟩ := cond_none h
    split at h2
    · rename_i hvs
      cases h2
      exact valGs_vals l hvs
    · cases h2
  · obtain ⟨_, h2⟩ := cond_none h
    split at h2
    · obtain ⟨_, h2⟩ := cond_none h2
      split at h2
      · rename_i hvs
        cases h2
        exact valGs_vals l hvs
      · cases h2
    · cases h2
  · cases h
 | .cl fn fs xs, c, hs, gs, h => by
  simp only [valG] at h
  split at h
  · obtain ⟨_, h2⟩ := cond_none h
    split at h2
    · rename_i ha
      split at h2
      · rename_i hb
        cases h2
        intro c hc
        rcases List.mem_append.1 hc with hc | hc
        · exact valGs_vals fs ha c hc
        · exact valGs_vals xs hb c hc
      · cases h2
    · cases h2
  · cases h
theorem valGs_vals : ∀ (ps : List PV) {cs : List EV} {hs : List EV} {gs : List Nat}, valGs hg bo ps cs = some (hs, gs) → Vals hs
 | [], cs, hs, gs, h => by
  simp only [valGs] at h
  split at h
  · cases h; intro c hc; cases hc
  · cases h
 | p :: ps, cs, hs, gs, h => by
  simp only [valGs] at h
  split at h
  · cases h
  · split at h
    · rename_i ha
      split at h
      · rename_i hb
        cases h
        intro c hc
        rcases List.mem_append.1 hc with hc | hc
        · exact valG_vals p ha c hc
        · exact valGs_vals ps hb c hc
      · cases h
    · cases h
end
mutual
theorem valG_ok (g : GF hg R1 R2 e e1 gF) : ∀ (p : PV) {c : EV} {hs : List EV} {gs : List Nat} (rest : List EV), Vals rest → valG hg bo p c = some (hs, gs) → (∀ k, gs.contains k = true → gF.contains k = true) → (fillP p (hs ++ rest)).2 = rest ∧ ∀ u, VR R1 (some e) (enc c) u → VR R2 (some e1) (enc (fillP p (hs ++ rest)).1) u
 | .h s, c, hs, gs, rest, hr, h, hgs => by
  simp only [valG] at h
  split at h
  · rename_i x gs' hx
    cases h
    exact ⟨rfl, fun u hv => giveS_ok g hx hgs hv⟩
  · cases h
 | .t r, c, hs, gs, rest, hr, h, hgs => by
  simp only [valG] at h
  split at h
  · split at h
    · rename_i ys hy
      cases h
      obtain ⟨e, rfl⟩ := castS_ok hy
      cases e
      exact ⟨rfl, fun u hv => g.carry hv⟩
    · cases h
  · cases h
    exact ⟨rfl, fun u hv => Wk.empty' _ _ _ (g.carry hv)⟩
  · cases h
 | .k c0, c, hs, gs, rest, hr, h, hgs => by
  simp only [valG] at h
  obtain ⟨h1, h2⟩ := cond_none h
  cases h2
  exact ⟨rfl, fun u hv => sameE_ok h1 _ _ _ (g.carry hv)⟩
 | .ag l, c, hs, gs, rest, hr, h, hgs => by
  simp only [valG] at h
  split at h
  · obtain ⟨a, b⟩ := valGs_ok g l rest hr h hgs
    refine ⟨a, fun u hv => ?_⟩
    obtain ⟨us, rfl, hlr⟩ := VR.ag_inv hv
    have := b us hlr
    exact .ag us this.1 this.2
  · cases h
 | .tu l, c, hs, gs, rest, hr, h, hgs => by simp [valG] at h
 | .fp l, c, hs, gs, rest, hr, h, hgs => by
  simp only [valG] at h
  split at h
  · rename_i cs
    obtain ⟨hcl, h2⟩ := cond_none h
    split at h2
    · rename_i vs hvs
      cases h2
      obtain ⟨a, b⟩ := valGs_ok g l rest hr hvs (fun k hk => by simp at hk)
      have hvv : Vals (hs ++ rest) := fun c hc => (List.mem_append.1 hc).elim (valGs_vals l hvs c) (hr c)
      refine ⟨a, fun u hv => ?_⟩
      cases hv with
      | fp us hl hc ha =>
       have := b us ⟨hl, fun j c u h1 h2 => (hc j c u h1 h2).some_of_none⟩
       exact .fp us this.1 (fun j c u h1 h2 => (this.2 j c u h1 h2).close (closedPs_nom hcl hvv c (List.mem_of_getElem? h1))) fun j u hu => g.mono _ _ _ (ha j u hu)
    · cases h2
  · rename_i k o
    obtain ⟨hcl, h2⟩ := cond_none h
    simp only [Bool.and_eq_true] at hcl
    have ho := Nat.eq_of_beq_eq_true hcl.1.2
    subst ho
    split at h2
    · rename_i t cs hk
      obtain ⟨hti, h2⟩ := cond_none h2
      split at h2
      · rename_i vs gs' hvs
        cases h2
        obtain ⟨a, b⟩ := valGs_ok g l rest hr hvs (fun k' hk' => hgs k' (by simp at hk' ⊢; exact .inr hk'))
        have hvv : Vals (hs ++ rest) := fun c hc => (List.mem_append.1 hc).elim (valGs_vals l hvs c) (hr c)
        refine ⟨a, fun u hv => ?_⟩
        obtain ⟨bb, us, hb, hlr, hc⟩ := g.box k (hgs k (by simp)) t cs (ne_itT hti) hk
        cases hv with
        | pt hb' =>
         rw [hb] at hb'
         cases hb'
         have := b us hlr
         exact .fp us this.1 (fun j c u h1 h2 => (this.2 j c u h1 h2).close (closedPs_nom hcl.2 hvv c (List.mem_of_getElem? h1))) fun j u hu => by rw [Nat.zero_add]; exact hc j u hu
      · cases h2
    · cases h2
  · cases h
 | .cl fn fs xs, c, hs, gs, rest, hr, h, hgs => by
  simp only [valG] at h
  split at h
  · obtain ⟨h1, h2⟩ := cond_none h
    obtain rfl := fnB_ok h1
    split at h2
    · rename_i a g1 ha
      split at h2
      · rename_i b g2 hb
        cases h2
        have hr2 : Vals (b ++ rest) := fun c hc => (List.mem_append.1 hc).elim (valGs_vals xs hb c) (hr c)
        obtain ⟨a1, a2⟩ := valGs_ok g fs (b ++ rest) hr2 ha (fun k hk => hgs k (by simp at hk ⊢; exact .inl hk))
        obtain ⟨b1, b2⟩ := valGs_ok g xs rest hr hb (fun k hk => hgs k (by simp at hk ⊢; exact .inr hk))
        simp only [fillP, List.append_assoc, a1]
        refine ⟨b1, fun u hv => ?_⟩
        cases hv with
        | cl us vs hl hl2 hc hc2 =>
         have k1 := a2 us ⟨hl, hc⟩
         have k2 := b2 vs ⟨hl2, hc2⟩
         exact .cl us vs k1.1 k2.1 k1.2 k2.2
      · cases h2
    · cases h2
  · cases h
theorem valGs_ok (g : GF hg R1 R2 e e1 gF) : ∀ (ps : List PV) {cs : List EV} {hs : List EV} {gs : List Nat} (rest : List EV), Vals rest → valGs hg bo ps cs = some (hs, gs) → (∀ k, gs.contains k = true → gF.contains k = true) → (fillPs ps (hs ++ rest)).2 = rest ∧ ∀ us, LR (VR R1 (some e)) (encL cs) us → LR (VR R2 (some e1)) (encL (fillPs ps (hs ++ rest)).1) us
 | [], cs, hs, gs, rest, hr, h, hgs => by
  simp only [valGs] at h
  split at h
  · cases h
    exact ⟨rfl, fun us hl => by
     have : us = [] := List.eq_nil_of_length_eq_zero (by simpa [encL] using hl.1)
     subst this
     exact LR.nil⟩
  · cases h
 | p :: ps, cs, hs, gs, rest, hr, h, hgs => by
  simp only [valGs] at h
  split at h
  · cases h
  · rename_i c cs
    split at h
    · rename_i a g1 ha
      split at h
      · rename_i b g2 hb
        cases h
        have hr2 : Vals (b ++ rest) := fun c hc => (List.mem_append.1 hc).elim (valGs_vals ps hb c) (hr c)
        obtain ⟨a1, a2⟩ := valG_ok g p (b ++ rest) hr2 ha (fun k hk => hgs k (by simp at hk ⊢; exact .inl hk))
        obtain ⟨b1, b2⟩ := valGs_ok g ps rest hr hb (fun k hk => hgs k (by simp at hk ⊢; exact .inr hk))
        simp only [fillPs, List.append_assoc, a1]
        refine ⟨b1, fun us hl => ?_⟩
        cases us with
        | nil => have := hl.1; simp [encL] at this
        | cons u us =>
         exact LR.cons (a2 u (hl.2 0 _ u rfl rfl)) (b2 us ⟨by simpa [encL] using hl.1, fun j c v h1 h2 => hl.2 (j + 1) c v (by simpa [encL] using h1) (by simpa using h2)⟩)
      · cases h
    · cases h
end
end
def handO : EOb → Bool
 | .arr _ _ _ wr => wr
 | _ => true
def valXs (hg : Nat → Option EOb) (D : List (Nat × Nat)) (B : Nat) : List (Nat × PO) → Option (List EV)
 | [] => some []
 | (p, po) :: hs => match asc D p with
  | some k => match hg k with
   | some o => cond (handO o) (match valO (renPO (piX D B) po) o with
    | some a => match valXs hg D B hs with
     | some b => some (a ++ b)
     | none => none
    | none => none) none
   | none => none
  | none => none
def lendOs (hg : Nat → Option EOb) : List Nat → EHp
 | [] => []
 | k :: gs => match hg k with
  | some (.arr t r xs _) => (k, some (.arr t r xs false)) :: lendOs hg gs
  | _ => lendOs hg gs
def isRow (hg : Nat → Option EOb) (k : Nat) : Bool := match hg k with
 | some (.arr _ _ _ _) => true
 | _ => false
def delE (D : List (Nat × Nat)) : EHp := D.map fun q => (q.2, none)
def deW (hg : Nat → Option EOb) : EV → EV × List Nat × Bool
 | .sw k l n sz => match hg k with
  | some (.arr _ r xs _) => cond (Nat.beq r.w sz) (.sc (.sl r) (show List r.Val from (xs.drop l.toNat).take n.toNat), [k], Nat.ble (l.toNat + n.toNat) xs.length) (.sw k l n sz, [], true)
  | _ => (.sw k l n sz, [], true)
 | c => (c, [], true)
def deWs (hg : Nat → Option EOb) : List EV → List EV × List Nat × Bool
 | [] => ([], [], true)
 | c :: cs => ((deW hg c).1 :: (deWs hg cs).1, (deW hg c).2.1 ++ (deWs hg cs).2.1, (deW hg c).2.2 && (deWs hg cs).2.2)
def WinOk (e : Env) (R2 : Nat → Nat → Value → Prop) (k : Nat) (r : Sc) (xs : List r.Val) : Prop :=
 ∀ b, e.blk k = some b → ∃ us, LR (VR R2 none) (List.map (encC r) xs).flatten us ∧ ∀ (j : Nat) u, us[j]? = some u → R2 b j u
theorem deW_ok {hg : Nat → Option EOb} {R1 R2 : Nat → Nat → Value → Prop} {e : Env} (hmono : ∀ b o u, R1 b o u → R2 b o u) (c : EV) {u : Value}
 (hw : ∀ k, (deW hg c).2.1.contains k = true → ∀ t r xs wr, hg k = some (.arr t r xs wr) → WinOk e R2 k r xs) (hck : (deW hg c).2.2 = true) (hv : VR R1 (some e) (enc c) u) : VR R2 (some e) (enc (deW hg c).1) u := by
 unfold deW at hw hck ⊢
 split
 · rename_i k l n sz
   simp only at hw hck
   split
   · rename_i t r xs wr hk
     rw [hk] at hw hck
     simp only at hw hck
     cases hb : Nat.beq r.w sz with
     | false => exact hv.mono hmono
     | true =>
      rw [hb] at hw hck
      simp only [cond_true] at hw hck ⊢
      have hb := Nat.eq_of_beq_eq_true hb
      subst hb
      have hck := Nat.le_of_ble_eq_true hck
      cases hv with
      | @sw e0 k0 l0 n0 sz0 b o cap h ho h1 h2 =>
       obtain ⟨us, h3, h4⟩ := hw k (by simp) t r xs wr hk b h
       have hrl : ∀ q ∈ List.map (encC r) xs, q.length = r.w := by
        intro q hq
        obtain ⟨z, _, rfl⟩ := List.mem_map.1 hq
        exact encC_len r z
       have hlen : ((List.map (encC r) xs).drop l.toNat |>.take n.toNat).length = n.toNat := by
        rw [List.length_take, List.length_drop, List.length_map]; omega
       have hrl2 : ∀ q ∈ ((List.map (encC r) xs).drop l.toNat |>.take n.toNat), q.length = r.w := fun q hq => hrl q (List.mem_of_mem_drop (List.mem_of_mem_take hq))
       have hfl : ((List.map (encC r) xs).drop l.toNat |>.take n.toNat).flatten = ((List.map (encC r) xs).flatten.drop (l.toNat * r.w)).take (n.toNat * r.w) := by
        rw [flatten_take_of _ _ (fun q hq => hrl q (List.mem_of_mem_drop hq)), flatten_drop_of _ _ hrl]
       have hus : (us.drop (l.toNat * r.w)).take (n.toNat * r.w) = (us.drop (l.toNat * r.w)).take (n.toNat * r.w) := rfl
       have := VR.sl (Rd := R2) (E := some e) (tight := false) (sz := r.w) (rows := ((List.map (encC r) xs).drop l.toNat |>.take n.toNat)) (a := some ⟨b, o, none⟩) (cap := cap)
        ((us.drop (l.toNat * r.w)).take (n.toNat * r.w)) hrl2 (enc_rows_one r _ |> fun hh => by
         intro c hc
         obtain ⟨q, hq, hcq⟩ := List.mem_flatten.1 hc
         exact hh c (List.mem_flatten.2 ⟨q, List.mem_of_mem_drop (List.mem_of_mem_take hq), hcq⟩))
        (by rw [hfl, List.length_take, List.length_take, List.length_drop, List.length_drop, h3.1])
        (fun j c u hc hu => by
         rw [hfl] at hc
         rw [List.getElem?_take] at hc hu
         split at hc
         · rename_i hj
           rw [if_pos hj, List.getElem?_drop] at hu
           rw [List.getElem?_drop] at hc
           exact h3.2 _ c u hc hu
         · cases hc) (by rw [hlen]; exact h1) h2 (fun hh => by cases hh)
        (fun hne => ⟨b, o, rfl, fun j u hj => by
         rw [List.getElem?_take] at hj
         split at hj
         · rename_i hjn
           rw [List.getElem?_drop] at hj
           have hn : 0 < n.toNat := by
            cases hz : n.toNat with
            | zero => rw [hz] at hjn; simp at hjn
            | succ m => omega
           rw [ho hn]
           exact h4 _ u hj
         · cases hj⟩)
       rw [hlen, ← List.map_drop, ← List.map_take] at this
       exact this
   · rename_i hno
     exact hv.mono hmono
 · exact hv.mono hmono
theorem deWs_ok {hg : Nat → Option EOb} {R1 R2 : Nat → Nat → Value → Prop} {e : Env} (hmono : ∀ b o u, R1 b o u → R2 b o u) : ∀ (cs : List EV) {us : List Value}
 (hw : ∀ k, (deWs hg cs).2.1.contains k = true → ∀ t r xs wr, hg k = some (.arr t r xs wr) → WinOk e R2 k r xs) (hck : (deWs hg cs).2.2 = true) (hv : LR (VR R1 (some e)) (encL cs) us), LR (VR R2 (some e)) (encL (deWs hg cs).1) us
 | [], us, hw, hck, hv => by
  have : us = [] := List.eq_nil_of_length_eq_zero (by simpa [encL] using hv.1)
  subst this
  exact LR.nil
 | c :: cs, us, hw, hck, hv => by
  simp only [deWs, Bool.and_eq_true] at hck
  cases us with
  | nil => have := hv.1; simp [encL] at this
  | cons u us =>
   simp only [deWs, encL]
   exact LR.cons (deW_ok hmono c (fun k hk => hw k (by simp only [deWs]; simp at hk ⊢; exact .inl hk)) hck.1 (hv.2 0 _ u rfl rfl))
    (deWs_ok hmono cs (fun k hk => hw k (by simp only [deWs]; simp at hk ⊢; exact .inr hk)) hck.2 ⟨by simpa [encL] using hv.1, fun j c v h1 h2 => hv.2 (j + 1) c v (by simpa [encL] using h1) (by simpa using h2)⟩)
def exCtr' (hg : Nat → Option EOb) (d : Nat) (c : Ctr) (aS : List EV) (D : List (Nat × Nat)) {R : Type} (k : EV → EHp → List Nat → Fr → Option R) : Option (Option R) :=
 match cond c.pu (deWs hg aS) (aS, [], true) with
 | (as', gw, ck) => match valGs hg c.pu (renPs (piX D (1000 * (d + 1))) c.ps) as' with
 | some (vs, gs) => match valXs hg D (1000 * (d + 1)) c.hs with
  | some ws => match joinT c.cs (vs ++ ws) with
   | some x => cond (okD (1000 * (d + 1)) D && (gw ++ gs).all (fun k => (rac D k).isNone) && D.all (fun q => c.hs.any fun r => Nat.beq r.1 q.1) && (c.pu || (gw ++ gs).all (isRow hg)))
    (some (cond ck (obind (c.M x) fun y => c.el y R fun e H => cond c.own
     (cond (smallX D (encH H) && (enc e).nom (fun k => !okN D k))
      (k (renE (piX D (1000 * (d + 1))) e) (renEH (piX D (1000 * (d + 1))) H ++ (delE D ++ cond c.pu [] (lendOs hg (gw ++ gs)))) ((gw ++ gs) ++ D.map (·.2)) (.blk (1000 * (d + 1)))) none)
     (cond ((enc e).nom (fun _ => true) && D.isEmpty) (k e (cond c.pu [] (lendOs hg (gw ++ gs))) (gw ++ gs) .no) none)) none))
    none
   | none => none
  | none => none
 | none => none
def knownE : EV → Bool
 | .un => false
 | _ => true
def exCtr (hg : Nat → Option EOb) (d : Nat) (c : Ctr) (aS : List EV) {R : Type} (k : EV → EHp → List Nat → Fr → Option R) : Option (Option R) :=
 cond (aS.all knownE) (exCtr' hg d c aS (bindH hg c.hs (bindPs c.ps aS [])) k) none
def exCall (hg : Nat → Option EOb) (d : Nat) (f : FuncId) (aS : List EV) {R : Type} (k : EV → EHp → List Nat → Fr → Option R) : List Ctr → Option R
 | [] => none
 | c :: cs => cond (Nat.beq c.f f) (match exCtr hg d c aS k with
  | some r => r
  | none => exCall hg d f aS k cs) (exCall hg d f aS k cs)
def fnE (ev : Nat → EV) : Operand → Option (FuncId × List EV × List EV)
 | .func f => some (f, [], [])
 | .tmp i => match ev i with
  | .v (.func (.func g) ⟨[]⟩ ⟨[]⟩) => some (g, [], [])
  | .cl (.func g) fs cs => some (g, fs, cs)
  | _ => none
 | _ => none
def nrAt : List (Nat × Nat) → Nat → Nat → Bool
 | [], _, _ => false
 | (m, e) :: l, n, d => cond (Nat.beq m n && Nat.beq e d) true (nrAt l n d)
def exShrink (T : TypeId → TInfo) (ev : Nat → EV) (hg : Nat → Option EOb) (d : Nat) (t : TypeId) (x : Operand) (lo hi mx : Option Operand) {R : Type} (k : EV → EHp → List Nat → Fr → Option R) : Option R :=
 match lo, hi, mx with
 | none, some y, none => match (T t).el with
  | some (e, sz, _, _) => match evx ev x with
   | .ow j => match hg j with
    | some (.arr e' r xs wr) => match intE ev y with
     | some h => cond (Nat.beq e e' && Nat.beq sz r.w && wr && !(Nat.beq d j)) (obind (subI xs 0 h) fun zs => k (.ow d) [(d, some (.arr e r zs true)), (j, none)] [j] (.one d)) none
     | none => none
    | _ => none
   | _ => none
  | none => none
 | _, _, _ => none
def exO (T : TypeId → TInfo) (CT : List Ctr) (n : Nat) (ev : Nat → EV) (hg : Nat → Option EOb) (o : Oper) {R : Type} (k : EV → EHp → List Nat → Fr → Option R) : Option R :=
 match o.dst with
 | some d => cond (Nat.blt d n) (match o.op with
  | .call ⟨.value f, args, _⟩ => match fnE ev f with
   | some (f, fs, cs) => exCall hg d f (fs ++ (args.toList.map (evx ev) ++ cs)) k CT
   | none => none
  | .box t x => exM T ev hg d (.box t x) k
  | .alloc t => exM T ev hg d (.alloc t) k
  | .makeSlice t x y => cond (nrAt gNr n d) (exMakeNr T ev d t x y k) (exM T ev hg d (.makeSlice t x y) k)
  | .makeMap t x => exM T ev hg d (.makeMap t x) k
  | .slice t x lo hi mx => cond (nrAt gNr n d) (exShrink T ev hg d t x lo hi mx k) (exM T ev hg d (.slice t x lo hi mx) k)
  | .buildSlice t len ps => cond (nrAt gNr n d) (exLitT T ev hg d t len ps.toList k) (exM T ev hg d (.buildSlice t len ps) k)
  | .call ⟨.builtin .append, args, ts⟩ => exM T ev hg d (.call ⟨.builtin .append, args, ts⟩) k
  | op => exR T ev hg op fun c us => k c [] us .no) none
 | none => match o.op with
  | .store t x y => exStore T ev hg t x y fun os us => k .un os us .no
  | .mapUpdate t x y v => exMapPut T ev hg t x y v fun os us => k .un os us .no
  | .insert t x y v => exMapPut T ev hg t x y v fun os us => k .un os us .no
  | _ => none
section
variable {P : Program} {T : TypeId → TInfo} {ev : Nat → EV} {hg : Nat → Option EOb} {n d : Nat} {ty : TypeId} {pos : String} {af : Array Edge} {gd : Option (Nat × Bool)}
variable {st : St} {K : St → Prop}
theorem ev_map {args : Array Operand} (hs : Sk ev st) (hne : ∀ c ∈ args.toList.map (evx ev), c ≠ .un) : args.toList.map st.ev = encL (args.toList.map (evx ev)) := by
 rw [encL_map, List.map_map]
 refine List.map_congr_left fun x hx => ?_
 exact hs.is rfl (hne _ (List.mem_map.2 ⟨x, hx, rfl⟩))
theorem hkilp_os {p : Nat → Bool} : ∀ {os : EHp} {h : Hp}, OsOk hg os → (∀ k o, (k, o) ∈ os → p k = false) → hkilp p (encH os ++ h) = encH os ++ hkilp p h
 | [], h, _, _ => rfl
 | (k, o) :: os, h, ho, hp => by
  obtain ⟨t, r, xs, wr, h1, rfl⟩ := ho k o (by simp)
  have ih := hkilp_os (os := os) (h := h) (fun k o hm => ho k o (by simp [hm])) (fun k o hm => hp k o (by simp [hm]))
  simp only [encH, List.cons_append, hkilp, ih, hp k _ (by simp : (k, some (EOb.arr t r xs false)) ∈ (k, some (EOb.arr t r xs false)) :: os)]
  rfl
theorem fillO_ren (π : Nat → Nat) (po : PO) {cs : List EV} (h : Vals cs) : (fillO (renPO π po) cs).1 = (fillO po cs).1.map (renO π) ∧ (fillO (renPO π po) cs).2 = (fillO po cs).2 ∧ Vals (fillO po cs).2 := by
 cases po with
 | box t l =>
  obtain ⟨a, b, c⟩ := fillPs_ren π l h
  exact ⟨by simp only [renPO, fillO, a, Option.map, renO], by simp only [renPO, fillO, b], c⟩
 | arr t r wr =>
  refine ⟨?_, rfl, h.tail⟩
  simp only [renPO, fillO]
  rcases head_vals h with e | ⟨s, x, e⟩
  · rw [e]; rfl
  · rw [e]
    simp only [arrE]
    cases castS s (.sl r) x <;> rfl
 | mp d kc vc =>
  refine ⟨?_, rfl, h.tail⟩
  simp only [renPO, fillO]
  rcases head_vals h with e | ⟨s, x, e⟩
  · rw [e]; rfl
  · rw [e]
    simp only [mpE]
    cases castS s (.sl (.pr kc vc)) x <;> rfl
 | nr t r ho =>
  cases ho with
  | none =>
   refine ⟨?_, rfl, h.tail⟩
   simp only [renPO, fillO]
   rcases head_vals h with e | ⟨s, x, e⟩
   · rw [e]; rfl
   · rw [e]
     simp only [nrE]
     cases castS s (.sl (.sl r)) x <;> rfl
  | some q =>
   obtain ⟨s0, p⟩ := q
   refine ⟨?_, rfl, h.tail.tail⟩
   simp only [renPO, fillO]
   rcases head_vals h with e | ⟨s, x, e⟩
   · rw [e]; rfl
   · rw [e]
     rcases head_vals h.tail with e2 | ⟨s2, x2, e2⟩
     · rw [e2]; rfl
     · rw [e2]
       simp only [nrE2]
       cases castS s (.sl (.sl r)) x with
       | none => rfl
       | some xs => cases castS s2 (.i .i64) x2 <;> rfl
theorem valXs_ok {D : List (Nat × Nat)} {B : Nat} : ∀ (hs : List (Nat × PO)) {ws : List EV} (rest : List EV), valXs hg D B hs = some ws → Vals (ws ++ rest) →
 (∀ p o', ehget (fillH hs (ws ++ rest)) p = some o' → ∃ k o, asc D p = some k ∧ hg k = some o ∧ handO o = true ∧ ∀ Rd e w, OR Rd e w k (encO o) → OR Rd e w k (encO (renO (piX D B) o'))) ∧
 (∀ p, hs.any (fun r => Nat.beq r.1 p) = true → ∃ k o, asc D p = some k ∧ hg k = some o ∧ handO o = true)
 | [], ws, rest, h, hv => ⟨fun p o' ho => (by cases ho), fun p hp => (by cases hp)⟩
 | (p, po) :: hs, ws, rest, h, hv => by
  simp only [valXs] at h
  split at h
  · rename_i k hk
    split at h
    · rename_i o ho
      obtain ⟨h1, h2⟩ := cond_none h
      split at h2
      · rename_i a ha
        split at h2
        · rename_i b hb
          cases h2
          have hv' : Vals (a ++ (b ++ rest)) := by rw [← List.append_assoc]; exact hv
          obtain ⟨v1, o1, v2, v3⟩ := valO_ok (renPO (piX D B) po) (b ++ rest) ha
          obtain ⟨r1, r2, r3⟩ := fillO_ren (piX D B) po hv'
          have hv2 : Vals (b ++ rest) := fun c hc => hv' c (List.mem_append.2 (.inr hc))
          obtain ⟨i1, i2⟩ := valXs_ok hs rest hb hv2
          refine ⟨fun q o' hq => ?_, fun q hq => ?_⟩
          · simp only [fillH, List.append_assoc, ehget] at hq
            rw [r2] at v1
            rw [v1] at hq
            by_cases e : q = p
            · subst e
              rw [Nat.beq_refl] at hq
              simp only [cond_true] at hq
              rw [r1, hq] at v2
              simp only [Option.map, Option.some.injEq] at v2
              subst v2
              exact ⟨k, o, hk, ho, h1, fun Rd e w => v3 Rd e w k⟩
            · rw [beq_no e] at hq
              exact i1 q o' hq
          · simp only [List.any_cons, Bool.or_eq_true] at hq
            rcases hq with hq | hq
            · have := Nat.eq_of_beq_eq_true hq
              subst this
              exact ⟨k, o, hk, ho, h1⟩
            · exact i2 q hq
        · cases h2
      · cases h2
    · cases h
  · cases h
theorem lendOs_ok (hg : Nat → Option EOb) : ∀ gs : List Nat, OsOk hg (lendOs hg gs) ∧ ∀ p ∈ lendOs hg gs, gs.contains p.1 = true
 | [] => ⟨fun k o h => (by cases h), fun p h => (by cases h)⟩
 | k :: gs => by
  obtain ⟨a, b⟩ := lendOs_ok hg gs
  simp only [lendOs]
  split
  · rename_i t r xs wr hk
    refine ⟨fun j o h => ?_, fun p h => ?_⟩
    · rcases List.mem_cons.1 h with h | h
      · cases h; exact ⟨t, r, xs, wr, hk, rfl⟩
      · exact a j o h
    · rcases List.mem_cons.1 h with rfl | h
      · simp
      · have := b p h; simp at this ⊢; exact .inr this
  · exact ⟨a, fun p h => by have := b p h; simp at this ⊢; exact .inr this⟩
theorem lendGs {w0 : Bs} {Rd0 : Nat → Nat → Value → Prop} {e : Env} {h : Hp} {w : World} {us' : List Nat} (hs : SR w0 Rd0 e h w) (hh : HC hg us' h) : ∀ gs : List Nat, (∀ k, gs.contains k = true → us'.contains k = true) →
 ∃ e1, Lent w0 Rd0 e h w e1 (encH (lendOs hg gs) ++ h) ∧ ∀ k, gs.contains k = true → ∀ t r xs wr, hg k = some (.arr t r xs wr) → VR (RDx w0 Rd0 e1 (encH (lendOs hg gs) ++ h) w) none (.sl false r.w (List.map (encC r) xs)) (e.sv k)
 | [], _ => ⟨e, Lent.refl hs, fun k hk => by simp at hk⟩
 | k :: gs, hu => by
  obtain ⟨e1, l1, v1⟩ := lendGs hs hh gs (fun j hj => hu j (by simp at hj ⊢; exact .inr hj))
  simp only [lendOs]
  split
  · rename_i t r xs wr hk
    have hh1 : HC hg us' (encH (lendOs hg gs) ++ h) := hh.put (lendOs_ok hg gs).1 fun _ h => h
    obtain ⟨wr', hw⟩ := hh1 k (hu k (by simp)) t r xs wr hk
    obtain ⟨e2, h1, h2, h3, h4, h5⟩ := l1.sr.lend hw
    refine ⟨e2, l1.trans ⟨h1, h2, h3, h4⟩, fun j hj t' r' xs' wr'' hj' => ?_⟩
    by_cases e : j = k
    · subst e
      rw [hk] at hj'
      cases hj'
      rw [← l1.sv j]
      exact h5
    · have hj : gs.contains j = true := by simp at hj ⊢; exact hj.resolve_left e
      exact (v1 j hj t' r' xs' wr'' hj').mono h2
  · rename_i hno
    refine ⟨e1, l1, fun j hj t' r' xs' wr'' hj' => ?_⟩
    by_cases e : j = k
    · subst e
      exact absurd hj' (hno _ _ _ _)
    · exact v1 j (by simp at hj ⊢; exact hj.resolve_left e) t' r' xs' wr'' hj'
theorem handO_lent {w0 : Bs} {Rd0 : Nat → Nat → Value → Prop} {e : Env} {h : Hp} {w : World} (hs : SR w0 Rd0 e h w) {k : Nat} {o : EOb} (hk : hget h k = some (encO o)) (ho : handO o = true) : e.lent k = 0 := by
 have := hs.ob k _ hk
 cases o with
 | box t cs => exact this.1
 | arr t r xs wr => exact this.2.2.1 ho
 | mp d kc vc es => exact this.1
 | nr t r xs ho => exact this.1
theorem hget_os {os : EHp} {h : Hp} {k : Nat} (hn : ∀ p ∈ os, p.1 ≠ k) : hget (encH os ++ h) k = hget h k := by
 rw [hget_append, any_enc]
 rw [if_neg]
 simp only [List.any_eq_true, beq_iff_eq, not_exists, not_and]
 exact fun p hp => hn p hp
theorem args_ren {D : List (Nat × Nat)} {B : Nat} {cs : List EV} : encL (renEs (piX D B) cs) = (encL cs).map (AV.ren (piX D B)) := by rw [encL_ren, renL_map]
section
variable {c : Ctr} {aS : List EV} {D : List (Nat × Nat)} {vs ws : List EV} {gs : List Nat} {x : Tup c.cs}
theorem handed_of {w0 : Bs} {Rd0 : Nat → Nat → Value → Prop} {e : Env} {h : Hp} {w : World} (hs : SR w0 Rd0 e h w) (hX : ∀ p, c.hs.any (fun r => Nat.beq r.1 p) = true → ∃ k o, asc D p = some k ∧ hg k = some o ∧ handO o = true) (hall : D.all (fun q => c.hs.any fun r => Nat.beq r.1 q.1) = true)
 (hget' : ∀ k o, (∃ p, asc D p = some k) → hg k = some o → hget h k = some (encO o)) : Handed D e h := by
 intro p k hk
 have h1 := List.all_eq_true.1 hall _ (asc_mem hk)
 obtain ⟨k', o, a, b, c'⟩ := hX p h1
 rw [hk] at a
 cases a
 have := hget' k o ⟨p, hk⟩ b
 exact ⟨⟨_, this⟩, handO_lent hs this c'⟩
theorem exCtr_gives (ha : valGs hg c.pu (renPs (piX D (1000 * (d + 1))) c.ps) aS = some (vs, gs)) (hw : valXs hg D (1000 * (d + 1)) c.hs = some ws) (hx : vs ++ ws = splitT c.cs x)
 (h2 : gs.all (fun k => (rac D k).isNone) = true) (h3 : D.all (fun q => c.hs.any fun r => Nat.beq r.1 q.1) = true) (h4 : (c.pu || gs.all (isRow hg)) = true) (hp : c.pu = false) (hdd : dstN (D.map (·.2)) = true) {st : St} (hH : Hk hg (gs ++ D.map (·.2)) st) :
 Gives st D (1000 * (d + 1)) (encH (lendOs hg gs) ++ st.h) (encH (c.H0 x)) (encL (c.as x)) (encL aS) := by
 intro w0 Rd0 e w us hs hl
 have hvv : Vals (vs ++ ws) := by rw [hx]; exact splitT_vals _ _
 have hws : Vals ws := fun c hc => hvv c (List.mem_append.2 (.inr hc))
 obtain ⟨e1, l1, v1⟩ := lendGs hs hH.hc gs (fun k hk => by simp at hk ⊢; exact .inl hk)
 have hrow : ∀ k, gs.contains k = true → isRow hg k = true := fun k hk => by
  rw [hp] at h4
  exact List.all_eq_true.1 (by simpa using h4) k (by simpa using hk)
 have g : GF hg (RDx w0 Rd0 e st.h w) (RDx w0 Rd0 e1 (encH (lendOs hg gs) ++ st.h) w) e e1 gs :=
  ⟨l1.rd, l1.blk, l1.sv, v1, fun k hk t cs _ hb => by have := hrow k hk; unfold isRow at this; rw [hb] at this; cases this⟩
 obtain ⟨a1, a2⟩ := valGs_ok g _ ws hws ha (fun k h => h)
 obtain ⟨r1, r2, r3⟩ := fillPs_ren (piX D (1000 * (d + 1))) c.ps hvv
 rw [hx] at r1 r2 a1 a2
 have hH0 : c.H0 x = fillH c.hs ws := by unfold Ctr.H0; rw [← r2, a1]
 obtain ⟨x1, x2⟩ := valXs_ok c.hs [] hw (by simpa using hws)
 rw [List.append_nil] at x1
 have hother : ∀ k o, (∃ p, asc D p = some k) → hg k = some o → hget (encH (lendOs hg gs) ++ st.h) k = some (encO o) := by
  rintro k o ⟨p, hk⟩ ho
  have hr : rac D k = some p := rac_of hdd (asc_mem hk)
  rw [hget_os fun q hq => ?_]
  · exact hH.at (by simp only [List.contains_eq_mem, List.mem_append, decide_eq_true_eq]; exact .inr (List.mem_map.2 ⟨_, asc_mem hk, rfl⟩)) ho
  · rintro rfl
    have h5 := (lendOs_ok hg gs).2 q hq
    have := List.all_eq_true.1 h2 q.1 (by simpa using h5)
    rw [hr] at this; cases this
 refine ⟨e1, l1, handed_of l1.sr x2 h3 hother, fun p ob hpo => ?_, ?_⟩
 · rw [hH0, hget_enc] at hpo
   obtain ⟨o', ho', rfl⟩ := Option.map_eq_some_iff.1 hpo
   obtain ⟨k, o, y1, y2, y3, y4⟩ := x1 p o' ho'
   refine ⟨k, _, y1, hother k o ⟨p, y1⟩ y2, fun Rd ho => ?_⟩
   rw [← encO_ren]
   exact y4 Rd e1 w ho
 · have := a2 us hl
   rw [r1, args_ren] at this
   exact this
theorem exCtr_givesP {as' : List EV} {gw : List Nat} (hde : deWs hg aS = (as', gw, true)) (ha : valGs hg c.pu (renPs (piX D (1000 * (d + 1))) c.ps) as' = some (vs, gs)) (hw : valXs hg D (1000 * (d + 1)) c.hs = some ws) (hx : vs ++ ws = splitT c.cs x)
 (h2 : (gw ++ gs).all (fun k => (rac D k).isNone) = true) (h3 : D.all (fun q => c.hs.any fun r => Nat.beq r.1 q.1) = true) (hdd : dstN (D.map (·.2)) = true) {st : St} (hH : Hk hg ((gw ++ gs) ++ D.map (·.2)) st) :
 GivesP st D (1000 * (d + 1)) (encH (c.H0 x)) (encL (c.as x)) (encL aS) := by
 intro w0 Rd0 e w us hs hl
 have hvv : Vals (vs ++ ws) := by rw [hx]; exact splitT_vals _ _
 have hws : Vals ws := fun c hc => hvv c (List.mem_append.2 (.inr hc))
 obtain ⟨x1, x2⟩ := valXs_ok c.hs [] hw (by simpa using hws)
 rw [List.append_nil] at x1
 have hat : ∀ k o, (gw ++ gs).contains k = true → hg k = some o → hget st.h k = some (encO o) := fun k o hk ho => hH.at (by simp at hk ⊢; rcases hk with hk | hk <;> simp [hk]) ho
 have hother : ∀ k o, (∃ p, asc D p = some k) → hg k = some o → hget st.h k = some (encO o) := by
  rintro k o ⟨p, hk⟩ ho
  exact hH.at (by simp only [List.contains_eq_mem, List.mem_append, decide_eq_true_eq]; exact .inr (List.mem_map.2 ⟨_, asc_mem hk, rfl⟩)) ho
 have hp : Handed D e st.h := handed_of hs x2 h3 hother
 have hnm : ∀ k o b, (gw ++ gs).contains k = true → hg k = some o → e.blk k = some b → ¬ (cB D (1000 * (d + 1)) e w).mine b := by
  rintro k o b hk ho hb (hm | ⟨p, c', hc, hbc⟩)
  · have := (hs.base k _ b (hat k o hk ho) hb).2
    simp only [cB] at hm
    omega
  · obtain ⟨⟨ob, hob⟩, _⟩ := hp p c' hc
    have := hs.inj _ _ _ _ _ (hat k o hk ho) hob hb hbc
    subst this
    have h5 := List.all_eq_true.1 h2 k (by simpa using hk)
    rw [rac_of hdd (asc_mem hc)] at h5
    cases h5
 have hmono : ∀ b o u, RDx w0 Rd0 e st.h w b o u → RB D (1000 * (d + 1)) e w b o u := by
  rintro b o u ⟨q1, q2, q3⟩
  refine ⟨q1, ?_⟩
  rintro (hm | ⟨p, c', hc, hbc⟩)
  · have := World.block_lt_of_cell? w _ q1
    simp only [cB] at hm
    simp only at this
    omega
  · obtain ⟨⟨ob, ho⟩, hl⟩ := hp p c' hc
    have := q3 c' ob ho hbc
    omega
 have hwin : ∀ k, (gw ++ gs).contains k = true → ∀ t r xs wr, hg k = some (.arr t r xs wr) → WinOk e (RB D (1000 * (d + 1)) e w) k r xs := fun k hk t r xs wr ho b' hb' => by
  obtain ⟨q1, q2, q3, q4⟩ := hs.ob k _ (hat k _ hk ho)
  rcases q4 with ⟨a1, a2, a, a3⟩ | ⟨b, cap, cur, a1, a2, a3, a4, a5, a6, a7, a8⟩
  · rw [a2] at hb'; cases hb'
  · rw [a1] at hb'
    cases hb'
    refine ⟨cur.toList.take (List.map (encC r) xs).flatten.length, ⟨a7.1, fun j c u hc hu => (a7.2 j c u hc hu).mono hmono⟩, fun j u hj => ?_⟩
    have hjl : j < (List.map (encC r) xs).flatten.length := by
     have := (List.getElem?_eq_some_iff.1 hj).1
     rw [a7.1] at this; exact this
    rw [List.getElem?_take, if_pos hjl] at hj
    exact ⟨by rw [cell_of_row w b' j cur t (0, 0) a5]; simpa using hj, hnm k _ b' hk ho a1⟩
 have g : GF hg (RB D (1000 * (d + 1)) e w) (RB D (1000 * (d + 1)) e w) e e (gw ++ gs) := by
  refine ⟨fun _ _ _ h => h, fun _ => rfl, fun _ => rfl, fun k hk t r xs wr ho => ?_, fun k hk t cs hti ho => ?_⟩
  · obtain ⟨q1, q2, q3, q4⟩ := hs.ob k _ (hat k _ hk ho)
    rcases q4 with ⟨a1, a2, a, a3⟩ | ⟨b, cap, cur, a1, a2, a3, a4, a5, a6, a7, a8⟩
    · rw [a1, a3]
      exact VR.sl (rows := []) [] (by simp) (by simp) rfl (by simp) (Nat.le_refl _) (Nat.zero_le _) (by simp) (by simp)
    · rw [a2]
      refine VR.sl (cur.toList.take (List.map (encC r) xs).flatten.length) q1 q2 a7.1 (fun j c u hc hu => (a7.2 j c u hc hu).mono hmono) a3 a4 (by simp) (fun _ => ⟨b, 0, rfl, fun j u hj => ?_⟩)
      have hjl : j < (List.map (encC r) xs).flatten.length := by
       have := (List.getElem?_eq_some_iff.1 hj).1
       rw [a7.1] at this; exact this
      rw [List.getElem?_take, if_pos hjl] at hj
      exact ⟨by rw [Nat.zero_add, cell_of_row w b j cur t (0, 0) a5]; simpa using hj, hnm k _ b hk ho a1⟩
  · obtain ⟨q0, b, us', q1, q2, q3⟩ := hs.ob k _ (hat k _ hk ho)
    refine ⟨b, us', q1, ⟨q3.1, fun j c u hc hu => (q3.2 j c u hc hu).mono hmono⟩, fun j u hj => ⟨?_, hnm k _ b hk ho q1⟩⟩
    rw [cell_of_row w b j us'.toArray t (0, 0) (q2.cells hti)]
    simpa using hj
 have hl := deWs_ok (hg := hg) hmono aS (by rw [hde]; exact fun k hk => hwin k (by simp at hk ⊢; exact .inl hk)) (by rw [hde]) hl
 rw [hde] at hl
 obtain ⟨a1, a2⟩ := valGs_ok g _ ws hws ha (fun k h => by simp at h ⊢; exact .inr h)
 obtain ⟨r1, r2, r3⟩ := fillPs_ren (piX D (1000 * (d + 1))) c.ps hvv
 rw [hx] at r1 r2 a1 a2
 have hH0 : c.H0 x = fillH c.hs ws := by unfold Ctr.H0; rw [← r2, a1]
 refine ⟨hp, fun p ob hpo => ?_, ?_⟩
 · rw [hH0, hget_enc] at hpo
   obtain ⟨o', ho', rfl⟩ := Option.map_eq_some_iff.1 hpo
   obtain ⟨k, o, y1, y2, y3, y4⟩ := x1 p o' ho'
   refine ⟨k, _, y1, hother k o ⟨p, y1⟩ y2, ?_⟩
   rw [← encO_ren]
   exact y4 _ e w ((hs.ob k _ (hother k o ⟨p, y1⟩ y2)).mono hmono)
 · have := a2 us hl
   rw [r1, args_ren] at this
   exact this
end
theorem encH_del (D : List (Nat × Nat)) : encH (delE D) = hdel D := by
 induction D with
 | nil => rfl
 | cons q D ih => simp only [delE, List.map_cons, encH, hdel, Option.map] at ih ⊢; rw [ih]
mutual
theorem enc_pu : ∀ c : EV, c.pu = true → (enc c).pu = true
 | .un, _ => rfl
 | .sc s x, h => by cases s <;> first | rfl | (simp [EV.pu] at h)
 | .nil, _ => rfl
 | .ts r xs, h => by simp [EV.pu] at h
 | .v x, _ => rfl
 | .ow k, _ => rfl
 | .pt k o, _ => rfl
 | .pe k i sz o, _ => rfl
 | .sw k l n sz, _ => rfl
 | .mp k, _ => rfl
 | .fp cs, h => by simp [EV.pu] at h
 | .ag cs, h => by simp only [EV.pu] at h; simp only [enc, AV.pu]; exact encL_pu cs h
 | .tu cs, h => by simp only [EV.pu] at h; simp only [enc, AV.pu]; exact encL_pu cs h
 | .cl fn fs cs, h => by simp only [EV.pu, Bool.and_eq_true] at h; simp only [enc, AV.pu, encL_pu fs h.1, encL_pu cs h.2]; rfl
theorem encL_pu : ∀ cs : List EV, EV.puL cs = true → AV.puL (encL cs) = true
 | [], _ => rfl
 | c :: cs, h => by simp only [EV.puL, Bool.and_eq_true] at h; simp only [encL, AV.puL, enc_pu c h.1, encL_pu cs h.2]; rfl
end
theorem encC_pu : ∀ (s : Sc) (x : s.Val), s.ns = true → ∀ c ∈ encC s x, c.pu = true
 | .i _, _, _, c, h => by simp only [encC, List.mem_singleton] at h; subst h; rfl
 | .b, _, _, c, h => by simp only [encC, List.mem_singleton] at h; subst h; rfl
 | .sl _, _, hn, c, h => by simp [Sc.ns] at hn
 | .pr a b2, x, hn, c, h => by
  simp only [Sc.ns, Bool.and_eq_true] at hn
  simp only [encC, List.mem_append] at h
  exact h.elim (encC_pu a x.1 hn.1 c) (encC_pu b2 x.2 hn.2 c)
 | .u, _, _, c, h => by simp [encC] at h
theorem puL_all : ∀ {cs : List AV}, (∀ c ∈ cs, c.pu = true) → AV.puL cs = true
 | [], _ => rfl
 | x :: cs, hm => by simp [AV.puL, hm x (by simp), puL_all (cs := cs) fun c hc => hm c (by simp [hc])]
theorem valE_pu (s : Sc) (x : s.Val) (hn : s.ns = true) : (enc (valE s x)).pu = true := by
 cases s with
 | i k => rfl
 | b => rfl
 | sl r => simp [Sc.ns] at hn
 | pr a b2 => simp only [valE, enc, encL_split, AV.pu]; exact puL_all (encC_pu _ _ hn)
 | u => rfl
theorem puH_ok {h : EHp} (hp : puH h = true) : hpPu (encH h) := by
 intro k ob hk
 rw [hget_enc] at hk
 obtain ⟨o, ho, rfl⟩ := Option.map_eq_some_iff.1 hk
 clear hk
 have : o.pu = true := by
  induction h with
  | nil => cases ho
  | cons p h ih =>
   obtain ⟨j, o1⟩ := p
   simp only [puH, List.all_cons, Bool.and_eq_true] at hp
   simp only [ehget] at ho
   by_cases e : k = j
   · subst e
     rw [Nat.beq_refl] at ho
     simp only [cond_true] at ho
     subst ho
     exact hp.1
   · rw [beq_no e] at ho
     exact ih (by simpa [puH] using hp.2) ho
 cases o with
 | box t cs => exact encL_pu cs this
 | arr t r xs wr =>
  intro c hc
  obtain ⟨q, hq, hcq⟩ := List.mem_flatten.1 hc
  obtain ⟨z, _, rfl⟩ := List.mem_map.1 hq
  exact encC_pu r z this c hcq
 | mp d kc vc es =>
  intro p hp
  obtain ⟨q, _, rfl⟩ := List.mem_map.1 hp
  exact valE_pu vc q.2 this
 | nr t r xs ho => cases this
def ENE (P : Program) (op : Op) (ev : Nat → EV) (f : FuncId) (aS : List EV) : Prop :=
 ∀ (st : St) (d : Nat) (ty : TypeId) (pos : String) (af : Array Edge) (gd : Option (Nat × Bool)), Sk ev st → ENT P ⟨some d, op, ty, pos, af, gd⟩ st f (encL aS)
theorem exCtr_ok {c : Ctr} (hc : c.ok P) {op : Op} {aS : List EV} (hen : (∀ c ∈ aS, c ≠ .un) → ENE P op ev c.f aS) {R : Type} {k : EV → EHp → List Nat → Fr → Option R} {r : R} (hd : d < n) (h : exCtr hg d c aS k = some (some r)) :
 ∃ e os us fr, FS P ⟨some d, op, ty, pos, af, gd⟩ n ev hg e os us fr ∧ k e os us fr = some r := by
 unfold exCtr at h
 obtain ⟨hne0, h⟩ := cond_none h
 have hne : ∀ c ∈ aS, c ≠ .un := fun c hc e => by
  have := List.all_eq_true.1 hne0 c hc
  rw [e] at this; cases this
 have hen := hen hne
 generalize bindH hg c.hs (bindPs c.ps aS []) = D at h
 unfold exCtr' at h
 generalize hde : cond c.pu (deWs hg aS) (aS, [], true) = aw at h
 obtain ⟨as', gw, ck⟩ := aw
 simp only at h
 split at h
 · rename_i vs gs ha
   split at h
   · rename_i ws hw
     split at h
     · rename_i x hx
       have hx := joinT_ok hx
       obtain ⟨hk, h⟩ := cond_none h
       simp only [Bool.and_eq_true] at hk
       obtain ⟨⟨⟨k1, k2⟩, k3⟩, k4⟩ := hk
       have hdd : dstN (D.map (·.2)) = true := by simp only [okD, Bool.and_eq_true] at k1; exact k1.1.2
       have h := Option.some.inj h
       obtain ⟨rfl, h⟩ := cond_none h
       obtain ⟨y, hy, hk⟩ := obind_some h
       obtain ⟨e, H, hel, hHn, hpp0, hrc⟩ := hc.2 x y hy
       rw [hel] at hk
       have hos := lendOs_ok hg (gw ++ gs)
       rcases cond_some hk with ⟨hown, hk⟩ | ⟨hown, hk2⟩
       · obtain ⟨g, h2⟩ := cond_none hk
         simp only [Bool.and_eq_true] at g
         refine ⟨_, _, _, _, fun st hn hs hH hf => ?_, h2⟩
         have hno : ∀ k o, (k, o) ∈ lendOs hg (gw ++ gs) → (Fr.blk (1000 * (d + 1))).p k = false := fun k o hm => by
          cases hp : (Fr.blk (1000 * (d + 1))).p k with
          | false => rfl
          | true =>
           obtain ⟨t, r', xs, wr, e1, _⟩ := hos.1 k o hm
           have e2 := hH.at (by have := hos.2 (k, o) hm; simp at this ⊢; rcases this with this | this <;> simp [this]) e1
           rw [hf.k k hp] at e2
           cases e2
         cases hpu : c.pu with
         | false =>
          rw [hpu] at hde
          simp only [cond_false, Prod.mk.injEq] at hde
          obtain ⟨rfl, rfl, _⟩ := hde
          simp only [List.nil_append] at hos hno
          have hg' := exCtr_gives ha hw hx k2 k3 k4 hpu hdd hH
          have := SS.callX (P := P) (op := op) (ty := ty) (pos := pos) (af := af) (gd := gd) (d := d)
           (K := fun s => s = ⟨st.n, tput (some d) (enc (renE (piX D (1000 * (d + 1))) e)) (tkilp (inB (1000 * (d + 1))) st.t), encH (renEH (piX D (1000 * (d + 1))) H ++ (delE D ++ lendOs hg gs)) ++ hkilp (inB (1000 * (d + 1))) st.h⟩) hrc (hen st d ty pos af gd hs) hg' k1 g.1 g.2 (by omega) (by
           rw [hkilp_os (p := inB (1000 * (d + 1))) (h := st.h) hos.1 hno, encH_append, encH_append, encH_ren, enc_ren, encH_del, List.append_assoc, List.append_assoc]; rfl)
          exact SS.freshB hf.t hf.h hf.k this
         | true =>
          rw [hpu] at hde
          simp only [cond_true] at hde
          have hg' := exCtr_givesP hde ha hw hx k2 k3 hdd hH
          have hpp := hpp0 hpu
          have := SS.callP (P := P) (op := op) (ty := ty) (pos := pos) (af := af) (gd := gd) (d := d)
           (K := fun s => s = ⟨st.n, tput (some d) (enc (renE (piX D (1000 * (d + 1))) e)) (tkilp (inB (1000 * (d + 1))) st.t), encH (renEH (piX D (1000 * (d + 1))) H ++ (delE D ++ [])) ++ hkilp (inB (1000 * (d + 1))) st.h⟩) hrc (enc_pu _ hpp.1) (puH_ok hpp.2) (hen st d ty pos af gd hs) hg' k1 g.1 g.2 (by omega) (by
           rw [encH_append, encH_append, encH_ren, enc_ren, encH_del, List.append_assoc, List.append_assoc]; rfl)
          exact SS.freshB hf.t hf.h hf.k this
       · have hhs := hc.1 hown
         have hHn := hHn hown
         subst hHn
         obtain ⟨g, h2⟩ := cond_none hk2
         simp only [Bool.and_eq_true] at g
         have hD : D = [] := by simpa using g.2
         subst hD
         have hH0 : c.H0 x = [] := by unfold Ctr.H0; rw [hhs]; rfl
         rw [hH0] at hrc
         refine ⟨_, _, _, _, fun st hn hs hH hf => ?_, h2⟩
         have hH' : Hk hg ((gw ++ gs) ++ ([] : List (Nat × Nat)).map (·.2)) st := by simpa using hH
         cases hpu : c.pu with
         | false =>
          rw [hpu] at hde
          simp only [cond_false, Prod.mk.injEq] at hde
          obtain ⟨rfl, rfl, _⟩ := hde
          have hg' := exCtr_gives ha hw hx k2 k3 k4 hpu hdd hH'
          rw [hH0] at hg'
          exact SS.callF hrc (hen st d ty pos af gd hs) hg' g.1 (by omega) rfl
         | true =>
          rw [hpu] at hde
          simp only [cond_true] at hde
          have hg' := exCtr_givesP hde ha hw hx k2 k3 hdd hH'
          rw [hH0] at hg'
          have hpp := hpp0 hpu
          exact SS.callFP hrc (enc_pu _ hpp.1) (hen st d ty pos af gd hs) hg' g.1 (by omega) rfl
     · cases h
   · cases h
 · cases h
theorem exCall_ok {CT : List Ctr} (hCT : ∀ c ∈ CT, c.ok P) {f : FuncId} {op : Op} {aS : List EV} (hen : (∀ c ∈ aS, c ≠ .un) → ENE P op ev f aS) {R : Type} {k : EV → EHp → List Nat → Fr → Option R} {r : R} (hd : d < n) (h : exCall hg d f aS k CT = some r) :
 ∃ e os us fr, FS P ⟨some d, op, ty, pos, af, gd⟩ n ev hg e os us fr ∧ k e os us fr = some r := by
 induction CT with
 | nil => cases h
 | cons c cs ih =>
  simp only [exCall] at h
  rcases cond_some h with ⟨h1, h2⟩ | ⟨_, h2⟩
  · have h1 := Nat.eq_of_beq_eq_true h1
    split at h2
    · rename_i rr hr
      subst h1
      subst h2
      exact exCtr_ok (hCT c (by simp)) hen hd hr
    · exact ih (fun c hc => hCT c (by simp [hc])) h2
  · exact ih (fun c hc => hCT c (by simp [hc])) h2
theorem fnE_ok {x : Operand} {f : FuncId} {fs cs : List EV} {args : Array Operand} {ts : Array TypeId} (hx : fnE ev x = some (f, fs, cs)) (hne : ∀ c ∈ fs ++ (args.toList.map (evx ev) ++ cs), c ≠ .un) : ENE P (.call ⟨.value x, args, ts⟩) ev f (fs ++ (args.toList.map (evx ev) ++ cs)) := by
 intro st d ty pos af gd hs
 have hm := ev_map (args := args) hs fun c hc => hne c (by simp only [List.mem_append]; exact .inr (.inl hc))
 rw [encL_append, encL_append, ← hm]
 unfold fnE at hx
 split at hx
 · cases hx
   have := ENT.func (P := P) (d := d) (ty := ty) (pos := pos) (af := af) (gd := gd) (st := st) (f := f) (args := args) (ts := ts)
   simpa only [encL, List.nil_append, List.append_nil] using this
 · rename_i i
   split at hx
   · rename_i g hg'
     cases hx
     have := ENT.val (P := P) (d := d) (ty := ty) (pos := pos) (af := af) (gd := gd) (st := st) (f := f) (args := args) (ts := ts) (hs.is (x := .tmp i) hg' (by intro e; cases e))
     simpa only [encL, List.nil_append, List.append_nil] using this
   · rename_i g fs' cs' hg'
     cases hx
     have := ENT.cl (P := P) (d := d) (ty := ty) (pos := pos) (af := af) (gd := gd) (st := st) (f := f) (args := args) (ts := ts) (hs.is (x := .tmp i) hg' (by intro e; cases e))
     rw [← List.append_assoc]
     exact this
   · cases hx
 · cases hx
theorem exShrink_ok (hT : TOk P T) {t : TypeId} {x : Operand} {lo hi mx : Option Operand} {R : Type} {k : EV → EHp → List Nat → Fr → Option R} {r : R} (hd : d < n) (h : exShrink T ev hg d t x lo hi mx k = some r) :
 ∃ c os us fr, FS P ⟨some d, .slice t x lo hi mx, ty, pos, af, gd⟩ n ev hg c os us fr ∧ k c os us fr = some r := by
 unfold exShrink at h
 split at h
 · rename_i y
   split at h
   · rename_i e sz b z he
     split at h
     · rename_i j hx
       split at h
       · rename_i e' r' xs wr hj
         split at h
         · rename_i hh hi
           obtain ⟨q, h3⟩ := cond_none h
           simp only [Bool.and_eq_true, Bool.not_eq_true'] at q
           obtain ⟨⟨⟨q1, q2⟩, q3⟩, q4⟩ := q
           have q1 := Nat.eq_of_beq_eq_true q1
           subst q1
           have q2 := Nat.eq_of_beq_eq_true q2
           subst q2
           subst q3
           have q4 : d ≠ j := fun e => by rw [e, Nat.beq_refl] at q4; cases q4
           obtain ⟨zs, hz, hk⟩ := obind_some h3
           unfold subI at hz
           split at hz
           · rename_i hb
             obtain rfl := Option.some.inj hz
             refine ⟨_, _, _, _, ?_, hk⟩
             intro st hn hs hH hf
             obtain ⟨kk, hy⟩ := intE_ok hi hs
             obtain ⟨m, rfl⟩ : ∃ m : Nat, hh = (m : Int) := ⟨hh.toNat, by omega⟩
             have := SS.shrinkOw (P := P) (t := t) (x := x) (y := y) (ty := ty) (pos := pos) (af := af) (gd := gd) (d := d) (k := j) (m := m) (rows := List.map (encC r') xs) (K := fun s' => s' = ⟨st.n, tput (some d) (.ow d) (tkill d st.t), ((d, some (.arr e r'.w ((List.map (encC r') xs).take m) true)) :: (j, none) :: []) ++ hkill d st.h⟩)
              (hT.el _ _ he) (hs.is hx (by intro e; cases e)) (hH.at (by simp) hj) hy q4 (by rw [List.length_map]; omega) (by omega) rfl
             have h4 := SS.fresh hf.t hf.h this
             rw [← List.map_take] at h4
             exact h4
           · cases hz
         · cases h
       · cases h
     · cases h
   · cases h
 · cases h
theorem FS.insert {t : TypeId} {x y v : Operand} {c : EV} {os : EHp} {us : List Nat} {fr : Fr} (h : FS P ⟨none, .mapUpdate t x y v, ty, pos, af, gd⟩ n ev hg c os us fr) : FS P ⟨none, .insert t x y v, ty, pos, af, gd⟩ n ev hg c os us fr := by
 intro st h1 h2 h3 h4 w0 Rd0 e a w next Q hga hn
 have := h st h1 h2 h3 h4 w0 Rd0 e a w next Q hga hn
 unfold Oper.wp at this ⊢
 simpa [execOp, Oper.upon] using this
theorem exO_ok {CT : List Ctr} (hT : TOk P T) (hCT : ∀ c ∈ CT, c.ok P) {o : Oper} {R : Type} {k : EV → EHp → List Nat → Fr → Option R} {r : R} (h : exO T CT n ev hg o k = some r) :
 ∃ c os us fr, FS P o n ev hg c os us fr ∧ k c os us fr = some r ∧ ∀ d, o.dst = some d → d < n := by
 obtain ⟨dst, op, ty, pos, af, gd⟩ := o
 unfold exO at h
 split at h
 · rename_i d hdst
   simp only at hdst
   subst hdst
   obtain ⟨h1, h2⟩ := cond_none h
   have hd : d < n := Nat.le_of_ble_eq_true h1
   have hdd : ∀ d', some d = some d' → d' < n := fun d' e => by cases e; exact hd
   have mk : (∃ c os us fr, FS P ⟨some d, op, ty, pos, af, gd⟩ n ev hg c os us fr ∧ k c os us fr = some r) → ∃ c os us fr, FS P ⟨some d, op, ty, pos, af, gd⟩ n ev hg c os us fr ∧ k c os us fr = some r ∧ ∀ d', some d = some d' → d' < n := by
    rintro ⟨c, os, us, fr, a, b⟩
    exact ⟨c, os, us, fr, a, b, hdd⟩
   split at h2
   · rename_i f args ts hop
     simp only at hop
     subst hop
     split at h2
     · rename_i f' fs cs hf
       exact mk (exCall_ok (ty := ty) (pos := pos) (af := af) (gd := gd) hCT (fun hne => fnE_ok hf hne) hd h2)
     · cases h2
   · rename_i hop; simp only at hop; subst hop; exact mk (exM_ok hT hd h2)
   · rename_i hop; simp only at hop; subst hop; exact mk (exM_ok hT hd h2)
   · rename_i hop
     simp only at hop
     subst hop
     rcases cond_some h2 with ⟨_, h2⟩ | ⟨_, h2⟩
     · exact mk (exMakeNr_ok hT hd h2)
     · exact mk (exM_ok hT hd h2)
   · rename_i hop; simp only at hop; subst hop; exact mk (exM_ok hT hd h2)
   · rename_i hop
     simp only at hop
     subst hop
     rcases cond_some h2 with ⟨_, h2⟩ | ⟨_, h2⟩
     · exact mk (exShrink_ok hT hd h2)
     · exact mk (exM_ok hT hd h2)
   · rename_i hop
     simp only at hop
     subst hop
     rcases cond_some h2 with ⟨_, h2⟩ | ⟨_, h2⟩
     · exact mk (exLitT_ok hT hd h2)
     · exact mk (exM_ok hT hd h2)
   · rename_i hop; simp only at hop; subst hop; exact mk (exM_ok hT hd h2)
   · obtain ⟨c, us, a, b⟩ := exR_ok hT h2
     exact mk ⟨c, _, us, _, FS.read a hd, b⟩
 · rename_i hdst
   simp only at hdst
   subst hdst
   split at h
   · rename_i hop; simp only at hop; subst hop
     obtain ⟨os, us, a, b⟩ := exStore_ok (ty := ty) (pos := pos) (af := af) (gd := gd) hT h
     exact ⟨_, _, _, _, a, b, fun d e => by cases e⟩
   · rename_i hop; simp only at hop; subst hop
     obtain ⟨os, us, a, b⟩ := exMapPut_ok (ty := ty) (pos := pos) (af := af) (gd := gd) hT h
     exact ⟨_, _, _, _, a, b, fun d e => by cases e⟩
   · rename_i hop; simp only at hop; subst hop
     obtain ⟨os, us, a, b⟩ := exMapPut_ok (ty := ty) (pos := pos) (af := af) (gd := gd) hT h
     exact ⟨_, _, _, _, FS.insert a, b, fun d e => by cases e⟩
   · cases h
end
end
end
noncomputable section
open Go Go.RowKit MapKept
def maskI (m : Int) (j : Nat) : Int := ((m.toNat ||| 2 ^ j : Nat) : Int)
theorem run_next_at {P : Program} (w : World) (ty : TypeId) (r bm n0 : Nat) (seen : Array Nat) (es : Array MapEntry) (hr : w.heap[r]? = some (.mapIter (some bm) n0 seen n0)) (hb : w.heap[bm]? = some (.map es n0)) (hold : ∀ x ∈ es.toList, x.born < n0) :
 ((leftOf es seen).size = 0 ∧ (Instr.next (.pointer (some ⟨r, 0, none⟩)) false ty).run P w = .ok (.tuple #[.bool false]) w) ∨
 ∃ e ∈ (leftOf es seen).toList, ∃ w1 : World, (w1 = w ∨ w1 = w.drew) ∧ (Instr.next (.pointer (some ⟨r, 0, none⟩)) false ty).run P w = .ok (.tuple #[.bool true, e.key, e.val]) { w1 with heap := w.heap.setIfInBounds r (.mapIter (some bm) n0 (seen.push e.born) n0) } := by
 simp only [Instr.next, getObj, Sem.run_bind, Sem.run, hr, hb, Result.andThen, next_test_false seen es n0 n0 hold (Nat.le_refl _), Bool.false_eq_true, if_false]
 unfold leftOf
 have hmem : ∀ x ∈ (Array.filter (fun e => !seen.contains e.born) es).toList, x.born < n0 := fun x hx => hold x (by simp at hx ⊢; exact hx.1)
 generalize Array.filter (fun e => !seen.contains e.born) es = L at hmem ⊢
 have e1 : L.filter (fun x => decide (x.born < n0)) = L := Array.filter_eq_self.2 (fun x hx => by simpa using hmem x (by simpa using hx))
 have e2 : L.filter (fun x => decide (x.born ≥ n0)) = #[] := by
  rw [Array.filter_eq_empty_iff]
  intro x hx
  have := hmem x (by simpa using hx)
  simp
  omega
 simp only [e1, e2, Array.append_empty]
 by_cases h0 : L.size = 0
 · left
   have : L = #[] := Array.eq_empty_of_size_eq_zero h0
   subst this
   refine ⟨rfl, ?_⟩
   simp [choose, Sem.run, Question.forced]
 · right
   have hne : L.isEmpty = false := by simp [Array.isEmpty, h0]
   simp only [hne, Bool.false_eq_true, if_false, Array.empty_append, Array.size_map]
   have hch : ∃ (j : Nat) (w1 : World), j < L.size ∧ (w1 = w ∨ w1 = w.drew) ∧ (choose (Question.mapNext L.size)).run P w = .ok j w1 := by
    by_cases hf : L.size ≤ 1
    · exact ⟨0, w, by omega, .inl rfl, by simp [choose, Sem.run, Question.forced, hf]⟩
    · exact ⟨_, w.drew, Nat.mod_lt _ (by omega), .inr rfl, by
       simp only [choose, Sem.run, Question.forced, decide_eq_true_eq, hf, if_false, Question.cut]
       rfl⟩
   obtain ⟨j, w1, hj, hal, hrun⟩ := hch
   refine ⟨L[j], by simp, w1, hal, ?_⟩
   have hh : w1.heap = w.heap := by rcases hal with h | h <;> rw [h] <;> rfl
   have hr1 : w1.heap[r]? = some (.mapIter (some bm) n0 seen n0) := by rw [hh]; exact hr
   have hset : ∀ (o' : Obj), (setObj r o').run P w1 = .ok () { w1 with heap := w.heap.setIfInBounds r o' } := fun o' => by
    simp only [setObj, Sem.run, hr1]
    rw [hh]
   simp only [hrun, Array.getElem?_map, Array.getElem?_eq_getElem hj, Option.map_some, Sem.run_bind, hset, Result.andThen]
   rfl
section
variable {P : Program} {st : St} {d : Nat} {dd : Option Nat} {ty : TypeId} {pos : String} {af : Array Edge} {gd : Option (Nat × Bool)} {K : St → Prop}
theorem SS.range {t : TypeId} {x : Operand} {k : Nat} {td td2 : TypeDesc} {z : Value} {es : List (Value × AV)} (ht : mapA P t = some (td2, z)) (hx : st.ev x = .mp k) (hk : hget st.h k = some (.mp td es)) (hd : d < st.n) (hdk : d ≠ k)
 (hK : K ⟨st.n, (d, .pt d 0) :: tkill d st.t, (d, some (.box itT [.mp k, .v (.int .i64 (es.length : Int)), .v (.int .i64 0), .v (.int .i64 (-1))])) :: hkill d st.h⟩) : SS P ⟨some d, .range t x, ty, pos, af, gd⟩ st K := by
 intro w0 Rd0 e a w next Q hga hn
 obtain ⟨kt, et, i, p1, p2, p3, p4⟩ := mapA_parts ht
 obtain ⟨b, arr, clock, hav, hb, hl0, hblk, hmr⟩ := hga.mapAt hx hk
 obtain ⟨hs1, hR1⟩ := hga.sr.kill d
 have hclk : clock = es.length := by rw [hmr.clk, hmr.len]
 subst hclk
 have hbox : BoxIs (w.alloc (.mapIter (some b) es.length #[] es.length)) w.heap.size itT [.map (some b), .int .i64 (es.length : Int), .int .i64 ((0 : Nat) : Int), .int .i64 (-1)] :=
  .inr ⟨rfl, b, es.length, 0, -1, #[], rfl, hNew w _, fun j => by simp, fun h => by omega⟩
 have hlr : LR (VR (RDx w0 Rd0 e (hkill d st.h) w) (some e)) [.mp k, .v (.int .i64 (es.length : Int)), .v (.int .i64 0), .v (.int .i64 (-1))] [.map (some b), .int .i64 (es.length : Int), .int .i64 ((0 : Nat) : Int), .int .i64 (-1)] :=
  LR.cons (.mp hb) (LR.cons .v (LR.cons .v (LR.cons .v LR.nil)))
 obtain ⟨hs2, hR2⟩ := hs1.newBoxO d itT _ hbox hlr (hnom_kill d st.h) (by have := hga.n.2; omega) (by simp [AV.mentL, AV.ment]; exact fun h => hdk h.symm)
 refine wp_value (v := .pointer (some ⟨w.heap.size, 0, none⟩)) (w' := w.alloc (.mapIter (some b) es.length #[] es.length)) ?_ (hn _ hK _ _ _ ⟨by simpa [Act.put] using hga.n, hga.d, hs2, TR.put ?_ (by rw [hga.n.1]; exact hd) (.pt Env.upd_blk)⟩)
 · simp [execOp, hav, run_range_map w t kt et b arr es.length p1 hblk]
 · exact (((hga.tr.kill d).mono hR1).mono hR2).env d (tnom_kill d st.t) (fun _ hi => Env.upd_blk' hi) (fun _ hi => Env.upd_sv' hi)
theorem Ga.iterAt {w0 : Bs} {Rd0 : Nat → Nat → Value → Prop} {e : Env} {a : Act} {w : World} (h : Ga w0 Rd0 e st a w) {x : Operand} {k km : Nat} {td : TypeDesc} {es : List (Value × AV)} {n0 m c : Int} (hx : st.ev x = .pt k 0)
 (hk : hget st.h k = some (.box itT [.mp km, .v (.int .i64 n0), .v (.int .i64 m), .v (.int .i64 c)])) (hkm : hget st.h km = some (.mp td es)) (hn0 : (es.length : Int) = n0) :
 ∃ b bm arr seen, a.eval x = .pointer (some ⟨b, 0, none⟩) ∧ e.blk k = some b ∧ e.lent k = 0 ∧ e.blk km = some bm ∧ w.heap[b]? = some (.mapIter (some bm) es.length seen es.length) ∧ w.heap[bm]? = some (.map arr es.length) ∧
  MR (RDx w0 Rd0 e st.h w) td es arr es.length ∧ (∀ j, seen.contains j = m.toNat.testBit j) ∧ (0 ≤ c → seen.back? = some c.toNat) ∧ 0 ≤ m := by
 obtain ⟨hl0, b, us, hb, hbox, hlr⟩ := h.sr.ob _ _ hk
 obtain ⟨_, bm, arr, clock, hbm, hblk, hmr⟩ := h.sr.ob _ _ hkm
 rcases hbox with ⟨h0, _⟩ | ⟨_, bm', N0, mask, cur, seen, rfl, hit, hseen, hback⟩
 · exact absurd rfl h0
 have hclk : clock = es.length := by rw [hmr.clk, hmr.len]
 subst hclk
 have h0 := hlr.2 0 _ _ rfl rfl
 have h1 := (hlr.2 1 _ _ rfl rfl).v_inv
 have h2 := (hlr.2 2 _ _ rfl rfl).v_inv
 have h3 := (hlr.2 3 _ _ rfl rfl).v_inv
 simp only [Value.int.injEq, true_and] at h1 h2 h3
 have hv := h.ev x
 rw [hx] at hv
 generalize a.eval x = u at hv
 cases hv with
 | pt hb2 =>
  obtain rfl := Option.some.inj (hb2.symm.trans hb)
  have hbm' : bm' = bm := by
   cases h0 with
   | mp hq => exact Option.some.inj (hq.symm.trans hbm)
  subst hbm'
  have hN : N0 = es.length := by omega
  subst hN
  subst h3
  refine ⟨_, bm', arr, seen, rfl, hb, hl0, hbm, hit, hblk, hmr, fun j => ?_, hback, by omega⟩
  rw [hseen j, ← h2]; rfl
theorem VR.tu3 {Rd : Nat → Nat → Value → Prop} {E : Option Env} (k v : Value) : VR Rd E (.tu [.v (.bool true), .un, .un]) (.tuple #[.bool true, k, v]) := by
 have h : LR (VR Rd E) [.v (.bool true), .un, .un] [.bool true, k, v] := LR.cons .v (LR.cons .un (LR.cons .un LR.nil))
 exact .tu _ h.1 h.2
theorem SS.next {x : Operand} {k km : Nat} {td : TypeDesc} {es : List (Value × AV)} {n0 m c : Int} (hx : st.ev x = .pt k 0) (hk : hget st.h k = some (.box itT [.mp km, .v (.int .i64 n0), .v (.int .i64 m), .v (.int .i64 c)])) (hkm : hget st.h km = some (.mp td es)) (hn0 : (es.length : Int) = n0) (hd : d < st.n)
 (hK0 : (∀ j, j < es.length → m.toNat.testBit j = true) → K ⟨st.n, (d, .tu [.v (.bool false)]) :: st.t, st.h⟩)
 (hK1 : ∀ j, j < es.length → m.toNat.testBit j = false → K ⟨st.n, (d, .tu [.v (.bool true), .un, .un]) :: st.t, (k, some (.box itT [.mp km, .v (.int .i64 n0), .v (.int .i64 (maskI m j)), .v (.int .i64 (Int.ofNat j))])) :: st.h⟩) :
 SS P ⟨some d, .next x false, ty, pos, af, gd⟩ st K := by
 intro w0 Rd0 e a w next Q hga hn
 obtain ⟨b, bm, arr, seen, hav, hb, hl0, hbm, hit, hblk, hmr, hseen, hback, hm0⟩ := hga.iterAt hx hk hkm hn0
 subst hn0
 have hborn : ∀ y ∈ arr.toList, y.born < es.length := fun y hy => by
  obtain ⟨j, hj, rfl⟩ := List.getElem_of_mem hy
  have hj' : j < arr.size := by simpa using hj
  have := hmr.brn j arr[j] (Array.getElem?_eq_getElem hj')
  rw [Array.getElem_toList, this, ← hmr.len]; exact hj'
 rcases run_next_at (P := P) w ty b bm es.length seen arr hit hblk hborn with ⟨hz, hrun⟩ | ⟨y, hy, w1, hw1, hrun⟩
 · have hall : ∀ j, j < es.length → m.toNat.testBit j = true := fun j hj => by
    rw [← hseen j]
    have hj' : j < arr.size := by rw [hmr.len]; exact hj
    have := all_seen arr seen hz arr[j] (by simp)
    rw [hmr.brn j arr[j] (Array.getElem?_eq_getElem hj')] at this
    exact this
   have hl : LR (VR (RDx w0 Rd0 e st.h w) (some e)) [.v (.bool false)] [.bool false] := LR.cons .v LR.nil
   exact wp_value (v := .tuple #[.bool false]) (w' := w) (by simp [execOp, hav, hrun]) (hn _ (hK0 hall) e _ _ (hga.put hd (.tu _ hl.1 hl.2)))
 · obtain ⟨hy1, hy2⟩ := mem_left hy
   obtain ⟨j, hj, hjy⟩ := List.getElem_of_mem hy1
   have hj' : j < arr.size := by simpa using hj
   have hbj : y.born = j := by rw [← hjy, Array.getElem_toList]; exact hmr.brn j _ (Array.getElem?_eq_getElem hj')
   rw [hbj] at hrun hy2
   have hje : j < es.length := by rw [← hmr.len]; exact hj'
   have hbit : m.toNat.testBit j = false := by rw [← hseen j]; exact hy2
   have hbase := hga.sr.base _ _ _ hk hb
   have hset := heap_set (o' := .mapIter (some bm) es.length (seen.push j) es.length) hit
   have hext : Bx w0 { w1 with heap := w.heap.setIfInBounds b (.mapIter (some bm) es.length (seen.push j) es.length) } := by
    have h1 : Bx w0 w1 := by
     rcases hw1 with rfl | rfl
     · exact hga.sr.ext
     · exact hga.sr.ext.drew
    have hh : w1.heap = w.heap := by rcases hw1 with h | h <;> rw [h] <;> rfl
    exact h1.step rfl rfl rfl (by simp [hh]) fun j hj _ => by rw [hh]; exact hset.2 j fun e => hj (by rw [e]; exact hbase.1)
   have hbe : ∀ j, (e.upd k (some b) (e.sv k) 0).blk j = e.blk j := fun j => by by_cases hj : j = k <;> simp [Env.upd, hj, hb]
   have hse : ∀ j, (e.upd k (some b) (e.sv k) 0).sv j = e.sv j := fun j => by by_cases hj : j = k <;> simp [Env.upd, hj]
   obtain ⟨hs2, hR2⟩ := hga.sr.turn (w' := { w1 with heap := w.heap.setIfInBounds b (.mapIter (some bm) es.length (seen.push j) es.length) }) k (some b) (e.sv k) 0
    (some (.box itT [.mp km, .v (.int .i64 (es.length : Int)), .v (.int .i64 (maskI m j)), .v (.int .i64 (Int.ofNat j))])) hext (.inr ⟨hb.symm, rfl⟩) (by simp)
    (fun b' hb' hne => hset.2 b' fun hh => hne _ hk (by rw [hb]; exact congrArg some hh.symm))
    (fun b' hb' _ => by obtain rfl := Option.some.inj hb'; exact ⟨hbase.1, by simpa using hbase.2, .inl ⟨_, hk, hb⟩⟩)
    (fun b' o' u' ob ho hb' hlt hcell => by have : e.lent k = 0 := hl0; omega)
    (fun Rd hR _ ob' hob' => by
     obtain rfl := Option.some.inj hob'
     refine ⟨Env.upd_lent, b, [.map (some bm), .int .i64 (es.length : Int), .int .i64 (maskI m j), .int .i64 (Int.ofNat j)], Env.upd_blk, .inr ⟨rfl, bm, es.length, m.toNat ||| 2 ^ j, Int.ofNat j, seen.push j, rfl, hset.1, fun i => ?_, fun _ => by simp⟩, ?_⟩
     · rw [contains_push, hseen i, Nat.testBit_or, Nat.testBit_two_pow]
       congr 1
       by_cases h : i = j
       · subst h; simp
       · rw [beq_eq_false_iff_ne.2 h]
         simp [show ¬ j = i from fun e => h e.symm]
     · exact LR.cons (.mp (by rw [hbe]; exact hbm)) (LR.cons .v (LR.cons .v (LR.cons .v LR.nil))))
   have hg2 : Ga w0 Rd0 (e.upd k (some b) (e.sv k) 0) ⟨st.n, st.t, (k, some (.box itT [.mp km, .v (.int .i64 (es.length : Int)), .v (.int .i64 (maskI m j)), .v (.int .i64 (Int.ofNat j))])) :: st.h⟩ a { w1 with heap := w.heap.setIfInBounds b (.mapIter (some bm) es.length (seen.push j) es.length) } :=
    ⟨hga.n, hga.d, hs2, (hga.tr.mono hR2).envEq hbe hse⟩
   refine wp_value (v := .tuple #[.bool true, y.key, y.val]) (w' := { w1 with heap := w.heap.setIfInBounds b (.mapIter (some bm) es.length (seen.push j) es.length) }) (by simp [execOp, hav, hrun]) (hn _ (hK1 j hje hbit) _ _ _ (hg2.put hd ?_))
   exact VR.tu3 _ _
theorem RS.entry {x : Operand} {k km : Nat} {td : TypeDesc} {es : List (Value × AV)} {n0 m c : Int} {kv : Value} {kc cv : AV} (hx : st.ev x = .pt k 0) (hk : hget st.h k = some (.box itT [.mp km, .v (.int .i64 n0), .v (.int .i64 m), .v (.int .i64 c)])) (hkm : hget st.h km = some (.mp td es)) (hn0 : (es.length : Int) = n0)
 (hc : 0 ≤ c) (he : es[c.toNat]? = some (kv, cv)) (hkc : ∀ (Rd : Nat → Nat → Value → Prop) E, VR Rd E kc kv) : RS P ⟨dd, .entry x, ty, pos, af, gd⟩ st (.tu [kc, cv]) := fun w0 Rd0 e a w h => by
 obtain ⟨b, bm, arr, seen, hav, hb, hl0, hbm, hit, hblk, hmr, hseen, hback, hm0⟩ := h.iterAt hx hk hkm hn0
 have hj : c.toNat < es.length := (List.getElem?_eq_some_iff.1 he).1
 have hj' : c.toNat < arr.size := by rw [hmr.len]; exact hj
 have hm := Array.getElem?_eq_getElem hj'
 have hkk := hmr.key _ _ _ he hm
 have hbrn := hmr.brn _ _ hm
 have hl : LR (VR (RDx w0 Rd0 e st.h w) (some e)) [kc, cv] [kv, arr[c.toNat].val] := LR.cons (hkc _ _) (LR.cons hkk.2.some_of_none LR.nil)
 have hnd : (arr.toList.map (·.born)).Nodup := by
  rw [List.Nodup, List.pairwise_iff_getElem]
  intro i i' hi hi' hii
  simp only [List.getElem_map, Array.getElem_toList]
  simp only [List.length_map, Array.length_toList] at hi hi'
  rw [hmr.brn i _ (Array.getElem?_eq_getElem hi), hmr.brn i' _ (Array.getElem?_eq_getElem hi')]
  omega
 have hf : arr.find? (·.born == c.toNat) = some arr[c.toNat] := by
  rw [← Array.find?_toList]
  have := find_born arr[c.toNat] arr.toList hnd (by simp)
  rw [hbrn] at this
  exact this
 refine ⟨.tuple #[kv, arr[c.toNat].val], .tu _ hl.1 hl.2, fun w' hxx => ?_⟩
 have hit' := hxx.block hit
 have hblk' := hxx.block hblk
 have hb0 := hback hc
 simp only [execOp, hav, Instr.entry, getObj, Sem.run_bind, Sem.run, hit', hblk', Result.andThen, hb0, bne_self_eq_false, Bool.false_eq_true, if_false, hf, hkk.1]
 rfl
end
end
noncomputable section
open Go Go.RowKit
def YieldsAll (P : Program) (gf : FuncId) (lb : Array Value) (es : List (Array Value)) (Cl : World → Prop) : Prop :=
 ∀ (l : Nat) (J : Nat → World → Prop) (W : World), (∀ j W, J j W → Cl W) → (∀ j W, J j W → J j W.drew) →
  (∀ j W1 x, es[j]? = some x → J j W1 → YieldAt Fence.wide 0 P l x W1 fun e W' => e = .returned (.bool true) ∧ J (j + 1) W') →
  J 0 W → CallsIn Fence.wide 0 P gf (#[.func (.yield l) #[] #[]] ++ lb) W fun e W' => (∃ v, e = .returned v) ∧ J es.length W'
def noLent : Ob → Bool
 | .arr _ _ _ wr => wr
 | _ => true
def hNoLent (h : Hp) : Prop := ∀ k ob, hget h k = some ob → noLent ob = true
theorem OR.noLent {Rd : Nat → Nat → Value → Prop} {e : Env} {w : World} {k : Nat} {ob : Ob} (h : OR Rd e w k ob) (hl : noLent ob = true) : e.lent k = 0 := by
 cases ob with
 | box t cs => exact h.1
 | arr t sz rows wr => exact h.2.2.1 hl
 | mp d es => exact h.1
 | nr t cs => exact h.1
theorem SR.re {w0 w1 : Bs} {Rd0 Rd1 : Nat → Nat → Value → Prop} {e : Env} {h : Hp} {w w' : World} (hs : SR w0 Rd0 e h w) (hx : Bx w1 w') (hg : Good Rd1 w1) (hk : ∀ (b : Nat) o, w.heap[b]? = some o → isDL o = false → w'.heap[b]? = some o) (hsz : w.heap.size ≤ w'.heap.size)
 (hR : ∀ b o u, RDx w0 Rd0 e h w b o u → RDx w1 Rd1 e h w' b o u) (hm : ∀ k ob b, hget h k = some ob → e.blk k = some b → w1.mine b) (hp : ∀ k, 4294967296 ≤ k → w0.blk k = w1.blk k ∧ w0.sv k = w1.sv k) : SR w1 Rd1 e h w' :=
 ⟨hx, hg, fun k ob hk' => ((hs.ob k ob hk').mono hR).keep hk, fun k ob b hk' hb => ⟨hm k ob b hk' hb, Nat.lt_of_lt_of_le (hs.base k ob b hk' hb).2 hsz⟩, hs.inj, fun k hk' => by
  obtain ⟨h1, h2⟩ := hs.pin k hk'
  obtain ⟨h3, h4⟩ := hp k hk'
  exact ⟨h1.trans h3, h2.trans h4⟩⟩
def tputs : List Tmp → List AV → List (Nat × AV) → List (Nat × AV)
 | p :: ps, c :: cs, t => tputs ps cs ((p, c) :: t)
 | _, _, t => t
def dropT (l : List Nat) : List (Nat × AV) → List (Nat × AV)
 | [] => []
 | (i, c) :: t => (i, if i ∈ l then .un else c) :: dropT l t
theorem dropT_get (l : List Nat) : ∀ (t : List (Nat × AV)) (i : Nat), tget (dropT l t) i = if i ∈ l then .un else tget t i
 | [], i => by simp [dropT, tget]
 | (j, c) :: t, i => by
  simp only [dropT, tget]
  by_cases h : i = j
  · subst h; simp
  · simp only [h, if_false]; exact dropT_get l t i
theorem foldl_size (l : List (Tmp × Value)) : ∀ (tm : Array Value), (l.foldl (fun t (q : Tmp × Value) => t.setIfInBounds q.1 q.2) tm).size = tm.size := by
 induction l with
 | nil => intro tm; rfl
 | cons q l ih => intro tm; rw [List.foldl_cons, ih]; simp
theorem foldl_other (l : List (Tmp × Value)) (i : Nat) (h : ∀ q ∈ l, q.1 ≠ i) : ∀ (tm : Array Value), (l.foldl (fun t (q : Tmp × Value) => t.setIfInBounds q.1 q.2) tm)[i]? = tm[i]? := by
 induction l with
 | nil => intro tm; rfl
 | cons q l ih =>
  intro tm
  rw [List.foldl_cons, ih (fun q' hq => h q' (by simp [hq]))]
  exact Array.getElem?_setIfInBounds_ne (h q (by simp))
theorem TR.puts {Rd : Nat → Nat → Value → Prop} {e : Env} {n : Nat} : ∀ (ps : List Tmp) (cs : List AV) (us : List Value) (t : List (Nat × AV)) (tm : Array Value), TR Rd e t tm → tm.size = n → (∀ p ∈ ps, p < n) → LR (VR Rd none) cs us →
 TR Rd e (tputs ps cs t) ((ps.zip us).foldl (fun t (q : Tmp × Value) => t.setIfInBounds q.1 q.2) tm)
 | [], cs, us, t, tm, h, _, _, _ => by simpa [tputs] using h
 | p :: ps, [], us, t, tm, h, _, _, hl => by
  have : us = [] := List.eq_nil_of_length_eq_zero (by simpa using hl.1)
  subst this
  simpa [tputs] using h
 | p :: ps, c :: cs, us, t, tm, h, hn, hp, hl => by
  cases us with
  | nil => have := hl.1; simp at this
  | cons u us =>
   simp only [tputs, List.zip_cons_cons, List.foldl_cons]
   refine TR.puts ps cs us _ _ (TR.put h (by rw [hn]; exact hp p (by simp)) (hl.2 0 c u rfl rfl).some_of_none) (by simpa using hn) (fun q hq => hp q (by simp [hq])) ⟨by simpa using hl.1, fun j x y hx hy => hl.2 (j + 1) x y (by simpa using hx) (by simpa using hy)⟩
theorem SLe.freeze {P : Program} {n : Nat} {t : List (Nat × AV)} {h : Hp} {i k : Nat} {bt : TypeId} {c : AV} {fn : Fn} (hi : tget t i = .cl fn [] [.pt k 0]) (hk : hget h k = some (.box bt [c])) (hbt : bt ≠ itT) (hf : c.fz = true) :
 SLe P ⟨n, t, h⟩ ⟨n, (i, .cl fn [] [.fp [c]]) :: t, (k, none) :: h⟩ := by
 intro w0 Rd0 e a w hg
 obtain ⟨h1, h2⟩ := hg.sr.forget k
 refine ⟨e, hg.n, hg.d, h1, fun j => ?_⟩
 show VR _ _ (tget ((i, .cl fn [] [.fp [c]]) :: t) j) _
 simp only [tget]
 by_cases hj : j = i
 · subst hj
   rw [if_pos rfl]
   have hv := hg.tr j
   rw [hi] at hv
   generalize a.tmps.getD j undef = gv at hv
   cases hv with
   | cl us xs hl hl2 hc hc2 =>
   have hus : us = [] := List.eq_nil_of_length_eq_zero (by simpa using hl)
   subst hus
   match xs, hl2, hc2 with
   | [x], hl2, hc2 =>
    refine .cl [] [x] rfl rfl (by simp) fun q c' u' h3 h4 => ?_
    cases q with
    | succ q => simp at h3
    | zero =>
     simp at h3 h4
     subst h3; subst h4
     have hx := hc2 0 _ x rfl rfl
     cases hx with
     | pt hb =>
      rename_i b
      obtain ⟨h0, b1, us, hb1, hbox, hlr⟩ := hg.sr.ob k _ hk
      obtain rfl : b1 = b := Option.some.inj (hb1.symm.trans hb)
      have hcells := hbox.cells hbt
      match us, hlr, hcells with
      | [v], hlr, hcells =>
       refine .fp [v] rfl (fun q c' u' h3 h4 => ?_) fun q u' h4 => ?_
       · cases q with
         | succ q => simp at h3
         | zero =>
          simp at h3 h4
          subst h3; subst h4
          exact ((hlr.2 0 c v rfl rfl).none_of_fz hf).mono h2
       · cases q with
         | succ q => simp at h4
         | zero =>
          simp at h4
          subst h4
          refine ⟨by rw [cell_of_row w b1 (0 + 0) _ _ (0, 0) hcells]; rfl, fun hnm => absurd (hg.sr.base k _ b1 hk hb1).1 hnm, fun k' ob hk' hb' => ?_⟩
          by_cases hkk : k' = k
          · subst hkk; rw [hget_same] at hk'; cases hk'
          · rw [hget_other hkk] at hk'
            exact absurd (hg.sr.inj _ _ _ _ _ hk' hk hb' hb1) hkk
      | [], hlr, _ => have := hlr.1; simp at this
      | _ :: _ :: _, hlr, _ => have := hlr.1; simp at this
   | [], hl2, _ => simp at hl2
   | _ :: _ :: _, hl2, _ => simp at hl2
 · rw [if_neg hj]
   exact (hg.tr j).mono h2
section
variable {P : Program} {st : St} {Post : Exit → St → Prop}
theorem AC.range {g : Operand} {ps : Array Tmp} {assign body : Code} {gf : FuncId} {cs : List AV} (hg : st.ev g = .cl (.func gf) [] cs) (hen : Enters P gf) (hl : hNoLent st.h) (items : List (List AV)) (I : Nat → St → Prop)
 (hit : ∀ (Rd : Nat → Nat → Value → Prop) (us : List Value), (∀ b o u, GT b o u → Rd b o u) → LR (VR Rd none) cs us → ∃ es : List (Array Value), es.length = items.length ∧ (∀ (j : Nat) it x, items[j]? = some it → es[j]? = some x → LR (VR Rd none) it x.toList) ∧ YieldsAll P gf us.toArray es fun W => ∀ b o u, Rd b o u → W.cell? ⟨b, o, none⟩ = some u)
 (hfz : ∀ c ∈ cs, c.fz = true) (hps : ∀ it ∈ items, it.length = ps.size) (hpn : ∀ p ∈ ps.toList, p < st.n) (h0 : ∃ s, I 0 s ∧ SLe P st s)
 (hround : ∀ (j : Nat) it s0, items[j]? = some it → I j s0 → AC false P assign ⟨st.n, tputs ps.toList it s0.t, s0.h⟩ fun x s => x = .normal ∧ s.n = st.n ∧ AC false P body s fun x s' => x = .normal ∧ s'.n = st.n ∧ ∃ s2, I (j + 1) s2 ∧ SLe P ⟨s'.n, dropT (wrL assign ++ wrL body ++ ps.toList) s'.t, s'.h⟩ s2)
 (hend : ∀ s, I items.length s → Post .normal s) : AC true P (.rangeFunc g ps assign body) st Post := by
 intro r w0 Rd0 e a w Q hr hga hn
 obtain rfl := hr rfl
 show (Code.rangeFunc g ps assign body).wpIn Fence.wide 0 P Q a w
 -- the iterator's value
 have hgv := hga.ev g
 rw [hg] at hgv
 generalize hax : a.eval g = gv at hgv
 cases hgv with
 | cl us0 us hl0 hl2 hc0 hc =>
 have hus0 : us0 = [] := List.eq_nil_of_length_eq_zero (by simpa using hl0)
 subst hus0
 refine wpIn_rangeFunc fun fn _ => ?_
 -- the two blocks
 obtain ⟨rec, hrec⟩ : ∃ rec : LoopState → Loop, rec = fun s => { state := s, pending := none, fn, tmps := a.tmps, params := ps, assign, body, defers := w.heap.size } := ⟨_, rfl⟩
 obtain ⟨L, hL⟩ : ∃ L, L = w.heap.size + 1 := ⟨_, rfl⟩
 obtain ⟨W1, hW1⟩ : ∃ W1, (w.alloc (.deferred (some []))).alloc (.loop (rec .ready)) = W1 := ⟨_, rfl⟩
 have hsz1 : W1.heap.size = w.heap.size + 2 := by rw [← hW1]; simp
 have hL1 : W1.heap[L]? = some (.loop (rec .ready)) := by
  rw [← hW1, hL]; have := World.alloc_heap_new (w.alloc (.deferred (some []))) (.loop (rec .ready)); rwa [World.size_alloc] at this
 have hD1 : W1.heap[w.heap.size]? = some (.deferred (some [])) := by
  rw [← hW1]; exact (Below.heap_alloc _ _ _ (by simp)).trans (World.alloc_heap_new w _)
 have hold : ∀ b, b < w.heap.size → W1.heap[b]? = w.heap[b]? := fun b hb => by
  rw [← hW1]; exact (Below.heap_alloc _ _ _ (by simp; omega)).trans (Below.heap_alloc _ _ _ hb)
 have hkeep1 : ∀ (b : Nat) o, w.heap[b]? = some o → isDL o = false → W1.heap[b]? = some o := fun b o hb _ => by
  rw [hold b (Array.getElem?_eq_some_iff.1 hb).1]; exact hb
 -- the ground of the rounds
 obtain ⟨own, hown⟩ : ∃ own : Nat → Prop, own = fun b => ∃ k ob, hget st.h k = some ob ∧ e.blk k = some b := ⟨_, rfl⟩
 obtain ⟨B, hB⟩ : ∃ B : LoopState → List Deferred → Bs, B = fun s df => ⟨W1.putObj L (.loop (rec s)), own, w0.blk, w0.sv, df⟩ := ⟨_, rfl⟩
 have hBw : ∀ s df, (B s df).w = W1.putObj L (.loop (rec s)) := fun s df => by rw [hB]
 have hBsz : ∀ s df, (B s df).w.heap.size = w.heap.size + 2 := fun s df => by rw [hBw]; simpa using hsz1
 have hmine : ∀ s df b, (B s df).mine b ↔ w.heap.size + 2 ≤ b ∨ own b := fun s df b => by
  unfold Bs.mine; rw [hBsz, hB]
 have hownlt : ∀ b, own b → b < w.heap.size ∧ w0.mine b := fun b hb => by
  rw [hown] at hb
  obtain ⟨k, ob, hk, hb⟩ := hb
  have := hga.sr.base k ob b hk hb
  exact ⟨this.2, this.1⟩
 have hm0 : ∀ s df b, (B s df).mine b → w0.mine b := fun s df b hb => by
  rcases (hmine s df b).1 hb with hb | hb
  · exact hga.sr.ext.mine (by omega)
  · exact (hownlt b hb).2
 have hLm : ∀ s df, ¬ (B s df).mine L := fun s df hm => by
  rcases (hmine s df L).1 hm with h | h
  · omega
  · have := (hownlt L h).1; omega
 have hDm : ∀ s df, ¬ (B s df).mine w.heap.size := fun s df hm => by
  rcases (hmine s df _).1 hm with h | h
  · omega
  · have := (hownlt _ h).1; omega
 have hLlt : L < W1.heap.size := by omega
 have hBL : ∀ s df, (B s df).w.heap[L]? = some (.loop (rec s)) := fun s df => by rw [hBw]; exact World.putObj_heap_same hLlt
 have hBo : ∀ s df (b : Nat), b ≠ L → (B s df).w.heap[b]? = W1.heap[b]? := fun s df b hb => by rw [hBw]; exact World.putObj_heap_other hb
 obtain ⟨Rd1, hRd1⟩ : ∃ Rd1 : Nat → Nat → Value → Prop, Rd1 = fun b o u => RDx w0 Rd0 e st.h w b o u := ⟨_, rfl⟩
 -- what is never written again is no object's
 have hfr : ∀ b o u, Rd1 b o u → b < w.heap.size ∧ ¬ own b := fun b o u hr => by
  rw [hRd1] at hr
  obtain ⟨h1, h2, h3⟩ := hr
  refine ⟨World.block_lt_of_cell? w _ h1, fun hb => ?_⟩
  rw [hown] at hb
  obtain ⟨k, ob, hk, hb⟩ := hb
  have := h3 k ob hk hb
  rw [(hga.sr.ob k ob hk).noLent (hl k ob hk)] at this
  omega
 have hgood : ∀ s df, Good Rd1 (B s df) := fun s df => by
  refine ⟨fun b o u hr => ⟨?_, fun hm => ?_⟩, fun b o u hgt => ?_⟩
  · have hlt := (hfr b o u hr).1
    rw [World.cell?_of_block (w := w) ((hBo s df b (by omega)).trans (hold b hlt))]
    rw [hRd1] at hr; exact hr.1
  · rcases (hmine s df b).1 hm with h | h
    · have := (hfr b o u hr).1; omega
    · exact (hfr b o u hr).2 h
  · rw [hRd1]; exact hga.sr.glob hgt
 -- a world's record turns
 have hturn : ∀ s df s' df' e' h' W, SR (B s df) Rd1 e' h' W → SR (B s' df') Rd1 e' h' (W.putObj L (.loop (rec s'))) ∧ W.heap[L]? = some (.loop (rec s)) ∧ (∀ b o u, RDx (B s df) Rd1 e' h' W b o u → RDx (B s' df') Rd1 e' h' (W.putObj L (.loop (rec s'))) b o u) := by
  intro s df s' df' e' h' W hs
  have hWL : W.heap[L]? = some (.loop (rec s)) := (hs.ext.block L (hLm s df)).trans (hBL s df)
  have hk := putObj_keep (o := .loop (rec s')) hWL rfl
  have hR : ∀ b o u, RDx (B s df) Rd1 e' h' W b o u → RDx (B s' df') Rd1 e' h' (W.putObj L (.loop (rec s'))) b o u := fun b o u ⟨h1, h2, h3⟩ =>
   ⟨cell_keep hk h1, fun hnm => h2 fun hm => hnm ((hmine s' df' b).2 ((hmine s df b).1 hm)), h3⟩
  refine ⟨hs.re (w1 := B s' df') ?_ (hgood s' df') hk (by simp) hR (fun k ob b hk' hb => (hmine s' df' b).2 ((hmine s df b).1 (hs.base k ob b hk' hb).1)) (fun k _ => by rw [hB]; exact ⟨rfl, rfl⟩), hWL, hR⟩
  refine ⟨?_, ?_, ?_, ?_, fun b hb => ?_⟩
  · have := hs.ext.os; rw [hBw] at this ⊢; exact this
  · have := hs.ext.tape; rw [hBw] at this ⊢; exact this
  · have := hs.ext.output; rw [hBw] at this ⊢; exact this
  · have := hs.ext.size; rw [hBsz] at this ⊢; simpa using this
  · by_cases hbL : b = L
    · subst hbL
      rw [hBL]
      exact World.putObj_heap_same (Array.getElem?_eq_some_iff.1 hWL).1
    · rw [World.putObj_heap_other hbL, hBo s' df' b hbL, ← hBo s df b hbL]
      exact hs.ext.block b fun hm => hb ((hmine s' df' b).2 ((hmine s df b).1 hm))
 -- at the start
 have hW1L : W1.putObj L (.loop (rec .ready)) = W1 := by
  unfold World.putObj
  have : W1.heap.setIfInBounds L (.loop (rec .ready)) = W1.heap := by
   refine Array.ext_getElem? fun i => ?_
   by_cases hi : L = i
   · subst hi; rw [Array.getElem?_setIfInBounds_self_of_lt hLlt, hL1]
   · rw [Array.getElem?_setIfInBounds_ne hi]
  rw [this]
 have hRst : ∀ e' h' W, SR (B .ready []) Rd1 e' h' W → ∀ b o u, Rd1 b o u → RDx (B .ready []) Rd1 e' h' W b o u := fun e' h' W hs b o u hr => by
  obtain ⟨g1, g2⟩ := (hgood .ready []).1 b o u hr
  refine ⟨?_, fun _ => hr, fun k ob hk hb => absurd (hs.base k ob b hk hb).1 g2⟩
  rw [World.cell?_of_block (w := (B .ready []).w) (hs.ext.block b g2)]
  exact g1
 have hs1 : SR (B .ready []) Rd1 e st.h W1 := by
  refine hga.sr.re (w1 := B .ready []) ⟨?_, ?_, ?_, ?_, fun b _ => ?_⟩ (hgood _ _) hkeep1 (by omega) (fun b o u hr => ?_) (fun k ob b hk hb => (hmine _ _ b).2 (.inr ?_)) (fun k _ => by rw [hB]; exact ⟨rfl, rfl⟩)
  · rw [hBw, hW1L]
  · rw [hBw, hW1L]
  · rw [hBw, hW1L]
  · rw [hBw, hW1L]; exact Nat.le_refl _
  · rw [hBw, hW1L]
  · have hr1 : Rd1 b o u := by rw [hRd1]; exact hr
    refine ⟨cell_keep hkeep1 hr.1, fun _ => hr1, fun k ob hk hb => ?_⟩
    exact hr.2.2 k ob hk hb
  · rw [hown]; exact ⟨k, ob, hk, hb⟩
 obtain ⟨es, hesl, hesv, hall⟩ := hit Rd1 us (fun b o u hgt => by rw [hRd1]; exact hga.sr.glob hgt) ⟨hl2, fun j c u h1 h2 => ((hc j c u h1 h2).none_of_fz (hfz c (List.mem_of_getElem? h1))).mono fun b o u hr => by rw [hRd1]; exact hr⟩
 obtain ⟨a0, ha0⟩ : ∃ a0 : Act, a0 = { tmps := a.tmps, defers := [] } := ⟨_, rfl⟩
 have hga1 : Ga (B .ready []) Rd1 e st a0 W1 := by
  refine ⟨by rw [ha0]; exact hga.n, by rw [ha0, hB], hs1, by rw [ha0]; exact hga.tr.mono fun b o u hr => hRst e st.h W1 hs1 b o u (by rw [hRd1]; exact hr)⟩
 obtain ⟨sI, hI0, hle0⟩ := h0
 obtain ⟨e0, hg0⟩ := hle0 _ _ _ _ _ hga1
 -- what is kept between the rounds
 obtain ⟨J, hJ⟩ : ∃ J : Nat → World → Prop, J = fun j W => ∃ s e', I j s ∧ Ga (B .ready []) Rd1 e' s a0 W := ⟨_, rfl⟩
 have hJrec : ∀ j W, J j W → W.heap[L]? = some (.loop (rec .ready)) := fun j W hj => by
  rw [hJ] at hj
  obtain ⟨sj, e', hIj, hg'⟩ := hj
  exact (hg'.sr.ext.block L (hLm _ _)).trans (hBL _ _)
 have hcall := hall L J W1 (fun j W hj b o u hr => by
  rw [hJ] at hj
  obtain ⟨sj, e', hIj, hg'⟩ := hj
  exact (hRst _ _ _ hg'.sr b o u hr).1)
  (fun j W hj => by
   rw [hJ] at hj ⊢
   obtain ⟨sj, e', hIj, hg'⟩ := hj
   exact ⟨sj, e', hIj, hg'.later ((Ext.refl W).drew)⟩)
  (fun j W x hx hj => by
   have hLW := hJrec j W hj
   rw [hJ] at hj
   obtain ⟨sj, e', hIj, hg'⟩ := hj
   have hjl : j < items.length := by rw [← hesl]; exact (List.getElem?_eq_some_iff.1 hx).1
   have hit' := List.getElem?_eq_getElem hjl
   have hxv := hesv j _ x hit' hx
   have hxs : x.size = ps.size := by
    have := hxv.1
    rw [hps _ (List.getElem_mem hjl)] at this
    simpa using this
   have hy := run_yield (P := P) (args := x) hLW (by rw [hrec]; exact hxs)
   refine ⟨fn, _, assign, body, by rw [hy, hrec], roundIn_of_wpIn trivial ?_⟩
   -- the round's frame
   obtain ⟨tm, htm⟩ : ∃ tm : Array Value, tm = (ps.zip x).foldl (fun t (q : Tmp × Value) => t.setIfInBounds q.1 q.2) a.tmps := ⟨_, rfl⟩
   have htm2 : tm = (ps.toList.zip x.toList).foldl (fun t (q : Tmp × Value) => t.setIfInBounds q.1 q.2) a.tmps := by
    rw [htm, ← Array.foldl_toList, Array.toList_zip]
   have hsize : a.tmps.size = st.n := hga.n.1
   have htms : tm.size = st.n := by rw [htm2, foldl_size]; exact hsize
   have htr : TR (RDx (B .ready []) Rd1 e' sj.h W) e' (tputs ps.toList items[j] sj.t) tm := by
    rw [htm2]
    refine TR.puts ps.toList _ _ _ _ (by have := hg'.tr; rw [ha0] at this; exact this) hsize hpn (hxv.imp fun c u hv => hv.mono (hRst _ _ _ hg'.sr))
   have hgr : Ga (B .ready []) Rd1 e' ⟨st.n, tputs ps.toList items[j] sj.t, sj.h⟩ { tmps := tm, defers := [] } W := ⟨⟨htms, hga.n.2⟩, by rw [hB], hg'.sr, htr⟩
   have hA := hround j _ sj hit' hIj (some L) (B .ready []) Rd1 e' { tmps := tm, defers := [] } W
    (Exit.then (fun a₁ w₁ => ∃ w₂, (Instr.beginRound L).run P w₁ = .ok () w₂ ∧ body.wpIn (Fence.wide.inRound L) 0 P (roundPost P L fun e W' => e = .returned (.bool true) ∧ J (j + 1) W') a₁ w₂) (fun _ _ _ => False))
    (fun h => by cases h) hgr ?_
   · rw [htm] at hA
     exact hA
   · rintro x1 s1 ⟨rfl, hn1, hb1⟩ w1 Rd1' hbk e1 a1 W2 hg1 hk1
     obtain ⟨rfl, rfl⟩ := hbk.ne rfl
     obtain ⟨hs2, hL2, hR2⟩ := hturn .ready [] .busy [] _ _ _ hg1.sr
     refine ⟨W2.putObj L (.loop (rec .busy)), by have := run_beginRound (P := P) hL2 (by rw [hrec]); rw [hrec] at this ⊢; exact this, ?_⟩
     have hg2 : Ga (B .busy []) Rd1' e1 s1 a1 (W2.putObj L (.loop (rec .busy))) := ⟨hg1.n, by rw [hg1.d, hB], hs2, hg1.tr.mono hR2⟩
     refine hb1 (some L) _ _ _ _ _ _ (fun h => by cases h) hg2 ?_
     rintro x2 s2 ⟨rfl, hn2, s3, hI3, hle⟩ w2 Rd2' hbk2 e2 a2 W3 hg3 hk2
     obtain ⟨rfl, rfl⟩ := hbk2.ne rfl
     obtain ⟨_, hL3, _⟩ := hturn .busy [] .ready [] _ _ _ hg3.sr
     -- the slots are those of the loop again
     have hg4 : Ga (B .busy []) Rd2' e2 ⟨s2.n, dropT (wrL assign ++ wrL body ++ ps.toList) s2.t, s2.h⟩ a0 W3 := by
      refine ⟨⟨by rw [ha0, hn2]; exact hsize, by rw [hn2]; exact hga.n.2⟩, by rw [ha0, hB], hg3.sr, fun i => ?_⟩
      show VR _ _ (tget (dropT _ s2.t) i) _
      rw [dropT_get]
      split
      · exact .un
      · rename_i hi
        have hi' : i ∉ wrL assign ∧ i ∉ wrL body ∧ i ∉ ps.toList := ⟨fun h => hi (by simp [h]), fun h => hi (by simp [h]), fun h => hi (by simp at h ⊢; simp [h])⟩
        have e1 : a2.tmps[i]? = a.tmps[i]? := by
         rw [hk2 i hi'.2.1, hk1 i hi'.1]
         show tm[i]? = _
         rw [htm2]
         refine foldl_other _ i (fun q hq e => hi'.2.2 ?_) a.tmps
         rw [← e]
         exact (List.of_mem_zip hq).1
        have e2 : a2.tmps.getD i undef = a0.tmps.getD i undef := by rw [ha0]; simp only [Array.getD_eq_getD_getElem?, e1]
        rw [← e2]
        exact hg3.tr i
     obtain ⟨e4, hg5⟩ := hle _ _ _ _ _ hg4
     obtain ⟨hs6, _, hR6⟩ := hturn .busy [] .ready [] _ _ _ hg5.sr
     refine ⟨.bool true, W3.putObj L (.loop (rec .ready)), by have := run_endRound (P := P) none hL3; rw [hrec] at this ⊢; simpa using this, rfl, ?_⟩
     rw [hJ]
     exact ⟨s3, e4, hI3, hg5.n, by rw [hg5.d, hB], hs6, hg5.tr.mono hR6⟩)
  (by rw [hJ]; exact ⟨sI, e0, hI0, hg0⟩)
 refine ⟨L, [mark w.heap.size], W1, { target := .fn (.func gf) us.toArray, args := #[.func (.yield L) #[] #[]] }, W1, gf, #[.func (.yield L) #[] #[]] ++ us.toArray, W1, ?_, ?_, fun _ _ => trivial, ?_, (fun h => by cases h), ?_⟩
 · rw [← hW1, hrec, hL]; exact run_enterLoop_outer _ _ _ _ _
 · simp only [resolve, hax]
   simp [go_sem]
 · have := run_callFunc hen (#[.func (.yield L) #[] #[]] ++ us.toArray) W1
   simpa [invoke, go_sem] using this
 · refine hcall.mono ?_
   rintro x W2 ⟨⟨v, rfl⟩, hj⟩
   have hL2 := hJrec _ _ hj
   rw [hJ] at hj
   obtain ⟨sE, e', hIE, hg'⟩ := hj
   rw [hesl] at hIE
   refine ⟨none, W2.putObj L (.loop (rec .exhausted)), by have := run_endLoop (P := P) hL2 (by rw [hrec]; simp); rw [hrec] at this ⊢; exact this, ?_⟩
   obtain ⟨hs2, _, hR2⟩ := hturn .ready [] .exhausted (mark w.heap.size :: w0.df) _ _ _ hg'.sr
   refine hn .normal _ (hend _ hIE) (B .exhausted (mark w.heap.size :: w0.df)) Rd1 ?_ e' _ _ ⟨by have := hg'.n; rw [ha0] at this; exact this, ?_, hs2, ?_⟩ (fun i _ => rfl)
   · have hrd : ∀ e' h' W b o u, RDx (B .exhausted (mark w.heap.size :: w0.df)) Rd1 e' h' W b o u → RDx w0 Rd0 e' h' W b o u := fun e' h' W b o u ⟨h1, h2, h3⟩ => by
      refine ⟨h1, fun hnm => ?_, h3⟩
      have := h2 fun hm => hnm (hm0 _ _ b hm)
      rw [hRd1] at this
      exact this.2.1 hnm
     have hsz0 := hga.sr.ext.size
     refine ⟨fun e2 h2 W hs => ⟨⟨?_, ?_, ?_, ?_, fun b hb => ?_⟩, hga.sr.good, fun k ob hk => (hs.ob k ob hk).mono (hrd _ _ _), fun k ob b hk hb => ⟨hm0 _ _ b (hs.base k ob b hk hb).1, (hs.base k ob b hk hb).2⟩, hs.inj, fun k hk => by have := hs.pin k hk; rw [hB] at this; exact this⟩, hrd, by rw [hBsz]; omega, fun hmk => ?_, fun h => by cases h⟩
     · have := hs.ext.os; rw [hBw, ← hW1] at this; exact this.trans hga.sr.ext.os
     · have := hs.ext.tape; rw [hBw, ← hW1] at this; exact this.trans hga.sr.ext.tape
     · have := hs.ext.output; rw [hBw, ← hW1] at this; exact this.trans hga.sr.ext.output
     · have := hs.ext.size; rw [hBsz] at this; omega
     · have hlt : b < w0.w.heap.size := by unfold Bs.mine at hb; omega
       rw [hs.ext.block b fun hm => hb (hm0 _ _ b hm), hBo _ _ b (by omega), hold b (by omega)]
       exact hga.sr.ext.block b hb
     · obtain ⟨l, hl1, hl2, hl3⟩ := hmk
       refine ⟨⟨w.heap.size :: l, by rw [hB]; simp [hl1], ?_, fun D hD => ?_⟩, fun D hD => ?_⟩
       · rw [List.nodup_cons]
         refine ⟨fun hm => ?_, hl2⟩
         exact (hl3 _ hm).1 (.inl hsz0)
       · rcases List.mem_cons.1 hD with rfl | hD
         · exact ⟨hDm _ _, by rw [hBo _ _ _ (by omega)]; exact hD1⟩
         · obtain ⟨d1, d2⟩ := hl3 D hD
           have hlt : D < w0.w.heap.size := by unfold Bs.mine at d1; omega
           exact ⟨fun hm => d1 (hm0 _ _ D hm), by rw [hBo _ _ D (by omega), hold D (by omega), hga.sr.ext.block D d1]; exact d2⟩
       · have hD : mark D ∈ mark w.heap.size :: w0.df := by rw [hB] at hD; exact hD
         rcases List.mem_cons.1 hD with h1 | h1
         · right
           have : D = w.heap.size := by
            have := congrArg (fun d => match d.target with | .collected x => x | _ => 0) h1
            simpa [mark] using this
           omega
         · exact .inl h1
   · rw [hB]
     show [mark w.heap.size] ++ a.defers = _
     rw [hga.d]; rfl
   · have := hg'.tr.mono hR2
     rw [ha0] at this
     exact this
end
end
noncomputable section
open Go Go.RowKit
noncomputable section
theorem condB {b x y : Bool} (h : cond b x y = true) : (b = true ∧ x = true) ∨ (b = false ∧ y = true) := by
 cases b with
 | true => exact .inl ⟨rfl, h⟩
 | false => exact .inr ⟨rfl, h⟩
structure ESt where
 n : Nat
 t : List (Nat × EV)
 h : EHp
def encE (E : ESt) : St := ⟨E.n, encT E.t, encH E.h⟩
def tputE : Option Nat → EV → List (Nat × EV) → List (Nat × EV)
 | some d, c, t => (d, c) :: t
 | none, _, t => t
theorem encT_put (d : Option Nat) (c : EV) (t : List (Nat × EV)) : encT (tputE d c t) = tput d (enc c) (encT t) := by cases d <;> rfl
def nomO (p : Nat → Bool) : EOb → Bool
 | .nr _ _ _ ho => match ho with
  | some (_, some j) => !p j
  | _ => true
 | o => (encO o).nom p
def hnopE (p : Nat → Bool) (h : EHp) : Bool := h.all fun q => !p q.1 && (match q.2 with
 | some o => nomO p o
 | none => true)
theorem nomO_ok {p : Nat → Bool} {o : EOb} (h : nomO p o = true) : (encO o).nom p = true := by
 cases o with
 | nr t r xs ho =>
  refine nomL_all fun c hc => ?_
  have h0 : ∀ c ∈ xs.map (nrA r), c.nom p = true := fun c hc => by
   obtain ⟨x, _, rfl⟩ := List.mem_map.1 hc
   cases x <;> rfl
  match ho, h, hc with
  | none, _, hc => exact h0 c hc
  | some (i, none), _, hc =>
   rcases List.mem_or_eq_of_mem_set hc with hc | rfl
   · exact h0 c hc
   · rfl
  | some (i, some j), h, hc =>
   rcases List.mem_or_eq_of_mem_set hc with hc | rfl
   · exact h0 c hc
   · exact h
 | _ => exact h
theorem hnopE_ok {p : Nat → Bool} : ∀ {h : EHp}, hnopE p h = true → hnop p (encH h) = true
 | [], _ => rfl
 | (k, o) :: h, hh => by
  simp only [hnopE, List.all_cons, Bool.and_eq_true] at hh
  have ih := hnopE_ok (p := p) (h := h) (by simpa [hnopE] using hh.2)
  unfold hnop at ih ⊢
  simp only [encH, List.all_cons, ih, Bool.and_true, Bool.and_eq_true]
  refine ⟨hh.1.1, ?_⟩
  cases o with
  | none => rfl
  | some o => exact nomO_ok hh.1.2
def freshE (fr : Fr) (E : ESt) : Bool := match fr with
 | .no => true
 | .one d => tnop (Fr.one d).p (encT E.t) && hnopE (Fr.one d).p E.h
 | .blk B => tnop (Fr.blk B).p (encT E.t) && hnopE (Fr.blk B).p E.h
theorem Fresh.no {st : St} : Fresh .no st := ⟨fun x => nom_ff _, fun k ob _ => ob.nom_ff, fun k h => by cases h⟩
theorem Fresh.of {fr : Fr} {st : St} (h1 : tnop fr.p st.t = true) (h2 : hnop fr.p st.h = true) : Fresh fr st :=
 ⟨tnop_get h1, fun k ob hk => hnop_obs h2 hk, fun k hk => hget_hin_none (hnop_names h2 hk)⟩
theorem freshE_ok {fr : Fr} {E : ESt} (h : freshE fr E = true) : Fresh fr (encE E) := by
 cases fr with
 | no => exact Fresh.no
 | one d => simp only [freshE, Bool.and_eq_true] at h; exact Fresh.of h.1 (hnopE_ok h.2)
 | blk B => simp only [freshE, Bool.and_eq_true] at h; exact Fresh.of h.1 (hnopE_ok h.2)
theorem Sk.enc (E : ESt) : Sk (eget E.t) (encE E) := fun i => .inr (tget_enc E.t i)
theorem Hk.enc (E : ESt) (us : List Nat) : Hk (ehget E.h) us (encE E) := fun k _ => hget_enc E.h k
def oneX : Nat := Classical.choose (⟨1, rfl⟩ : ∃ n : Nat, n = 1)
theorem oneX_eq : oneX = 1 := Classical.choose_spec (⟨1, rfl⟩ : ∃ n : Nat, n = 1)
open Classical in
def demG {R : Type} (f : Bool → Option R) : Option R := match f true, f false with
 | some a, some b => if a = b then some a else none
 | _, _ => none
def dem {R : Type} (f : Bool → Option R) : Option R := Nat.rec (motive := fun _ => Option R) none (fun _ _ => demG f) oneX
theorem dem_eq {R : Type} (f : Bool → Option R) : dem f = demG f := by
 unfold dem
 rw [oneX_eq]
 rfl
theorem dem_iff {R : Type} {f : Bool → Option R} {r : R} : dem f = some r ↔ f true = some r ∧ f false = some r := by
 rw [dem_eq]
 unfold demG
 cases h1 : f true with
 | none => simp
 | some a =>
  cases h2 : f false with
  | none => simp
  | some b =>
   simp only
   split
   · rename_i h; subst h; simp
   · rename_i h
     simp only [Option.some.injEq, reduceCtorEq, false_iff, not_and]
     rintro rfl e
     exact h e.symm
open Classical in
def dAllG {R : Type} (n : Nat) (m : Int) (f : Nat → Option R) (g : Option R) : Option R :=
 if ∀ j, j < n → m.toNat.testBit j = true then g else if h : ∃ r, ∀ j, j < n → m.toNat.testBit j = false → f j = some r then some (Classical.choose h) else none
def dAll {R : Type} (n : Nat) (m : Int) (f : Nat → Option R) (g : Option R) : Option R := Nat.rec (motive := fun _ => Option R) none (fun _ _ => dAllG n m f g) oneX
theorem dAll_eq {R : Type} (n : Nat) (m : Int) (f : Nat → Option R) (g : Option R) : dAll n m f g = dAllG n m f g := by
 unfold dAll
 rw [oneX_eq]
 rfl
theorem dAll_some {R : Type} {n : Nat} {m : Int} {f : Nat → Option R} {g : Option R} {r : R} (h : dAll n m f g = some r) :
 ((∀ j, j < n → m.toNat.testBit j = true) → g = some r) ∧ ∀ j, j < n → m.toNat.testBit j = false → f j = some r := by
 rw [dAll_eq] at h
 unfold dAllG at h
 split at h
 · rename_i ha
   exact ⟨fun _ => h, fun j hj hb => by rw [ha j hj] at hb; cases hb⟩
 · rename_i hn
   split at h
   · rename_i he
     cases h
     exact ⟨fun ha => absurd ha hn, fun j hj hb => Classical.choose_spec he j hj hb⟩
   · cases h
inductive ItT where
 | go (d : Nat) (t : TypeId) (x : Operand)
 | nx (d : Nat) (x : Operand)
 | en (d : Nat) (x : Operand)
def itT? (o : Oper) : Option ItT := match o.dst with
 | some d => match o.op with
  | .range t x => some (.go d t x)
  | .next x false => some (.nx d x)
  | .entry x => some (.en d x)
  | _ => none
 | none => none
structure ItB where
 k : Nat
 km : Nat
 n0 : Int
 m : Int
 c : Int
 kc : Sc
 vc : Sc
 es : List (kc.Val × vc.Val)
 d : TypeDesc
def itB (E : ESt) (c : EV) : Option ItB := match c with
 | .pt k 0 => match ehget E.h k with
  | some (.box t [.mp km, .sc (.i .i64) n0, .sc (.i .i64) m, .sc (.i .i64) c]) => cond (Nat.beq t itT) (match ehget E.h km with
   | some (.mp d kc vc es) => some ⟨k, km, n0, m, c, kc, vc, es, d⟩
   | _ => none) none
  | _ => none
 | _ => none
def exIt (T : TypeId → TInfo) (q : ItT) (E : ESt) {R : Type} (k : ESt → Option R) : Option R := match q with
 | .go d t x => match evx (eget E.t) x with
  | .mp j => match ehget E.h j with
   | some (.mp _ kc vc es) => cond (Nat.blt d E.n && (T t).mp.isSome && !(Nat.beq d j) && freshE (.one d) E) (k ⟨E.n, (d, .pt d 0) :: E.t, (d, some (.box itT [.mp j, .sc (.i .i64) ((@List.length (kc.Val × vc.Val) es : Nat) : Int), .sc (.i .i64) 0, .sc (.i .i64) (-1)])) :: E.h⟩) none
   | _ => none
  | _ => none
 | .nx d x => match itB E (evx (eget E.t) x) with
  | some q => cond (Nat.blt d E.n) (cond (decide (((@List.length (q.kc.Val × q.vc.Val) q.es : Nat) : Int) = q.n0)) (dAll (@List.length (q.kc.Val × q.vc.Val) q.es) q.m
   (fun j => k ⟨E.n, (d, .tu [.sc .b true, .un, .un]) :: E.t, (q.k, some (.box itT [.mp q.km, .sc (.i .i64) q.n0, .sc (.i .i64) (maskI q.m j), .sc (.i .i64) (Int.ofNat j)])) :: E.h⟩)
   (k ⟨E.n, (d, .tu [.sc .b false]) :: E.t, E.h⟩)) none) none
  | none => none
 | .en d x => match itB E (evx (eget E.t) x) with
  | some q => cond (Nat.blt d E.n && q.kc.key) (cond (decide (((@List.length (q.kc.Val × q.vc.Val) q.es : Nat) : Int) = q.n0)) (obind (nthI q.es q.c) fun p => k ⟨E.n, (d, .tu [valE q.kc p.1, valE q.vc p.2]) :: E.t, E.h⟩) none) none
  | none => none
structure NilT where
 d : Nat
 t : TypeId
 x : Operand
 c : EV
 r : Sc
 xs : List r.Val
def nilC (d : Nat) (t : TypeId) (x : Operand) : EV → Option NilT
 | .sc (.sl r) xs => some ⟨d, t, x, .sc (.sl r) xs, r, xs⟩
 | .ts r xs => some ⟨d, t, x, .ts r xs, r, xs⟩
 | .nil => some ⟨d, t, x, .nil, .b, []⟩
 | _ => none
def nilT (o : Oper) (ev : Nat → EV) : Option NilT := match o.dst with
 | some d => match o.op with
  | .binOp .eql t x (.const (.slice none 0 0)) _ => nilC d t x (evx ev x)
  | _ => none
 | none => none
section
variable (T : TypeId → TInfo) (CT : List Ctr)
def exStep (o : Oper) (E : ESt) {R : Type} (k : ESt → Option R) : Option R :=
 match itT? o with
 | some q => exIt T q E k
 | none =>
 match nilT o (eget E.t) with
 | some q => cond (Nat.blt q.d E.n && Nat.blt 0 q.r.w && (T q.t).el.isSome) (cond (isNilB q.xs) (dem fun b => k ⟨E.n, (q.d, .sc .b b) :: E.t, E.h⟩) (k ⟨E.n, (q.d, .sc .b false) :: E.t, E.h⟩)) none
 | none => exO T CT E.n (eget E.t) (ehget E.h) o fun c os us fr => cond (freshE fr E) (k ⟨E.n, tputE o.dst c E.t, os ++ E.h⟩) none
def skipE (d : Option Nat) (E : ESt) : ESt := ⟨E.n, tputE d (.v (.tuple ⟨[]⟩)) E.t, E.h⟩
def dstIn (d : Option Nat) (n : Nat) : Bool := match d with
 | some d => Nat.blt d n
 | none => true
def exG (ops : List Oper) (o : Oper) (E : ESt) {R : Type} (k : ESt → Option R) : Option R :=
 match o.guard with
 | none => exStep T CT o E k
 | some (j, b) => match (ops[j]?).bind (·.dst) with
  | some s => match eget E.t s with
   | .sc .b c => cond (Nat.blt s E.n && dstIn o.dst E.n) (cond c
    (cond b (exStep T CT o ⟨E.n, (s, .sc .b true) :: E.t, E.h⟩ k) (k (skipE o.dst ⟨E.n, (s, .sc .b true) :: E.t, E.h⟩)))
    (cond b (k (skipE o.dst ⟨E.n, (s, .sc .b false) :: E.t, E.h⟩)) (exStep T CT o ⟨E.n, (s, .sc .b false) :: E.t, E.h⟩ k))) none
   | .v (.tuple ⟨[]⟩) => cond (Nat.blt s E.n && dstIn o.dst E.n) (k (skipE o.dst E)) none
   | _ => none
  | none => none
def exL (ops : List Oper) : List Oper → (E : ESt) → {R : Type} → (ESt → Option R) → Option R
 | [], E, _, k => k E
 | o :: l, E, _, k => exG T CT ops o E fun E' => exL ops l E' k
structure EEn where
 d : Option Nat
 c : EV
 os : EHp
 us : List Nat
 fr : Fr
def finTE (t : List (Nat × EV)) : List EEn → List (Nat × EV)
 | [] => t
 | u :: pl => finTE (tputE u.d u.c t) pl
def finHE (h : EHp) : List EEn → EHp
 | [] => h
 | u :: pl => finHE (u.os ++ h) pl
def encN (u : EEn) : En := ⟨u.d, enc u.c, encH u.os, u.us, u.fr.p⟩
def edgeE (done : List EEn) (i : Nat) : List Edge → Option EV
 | [] => none
 | e :: es => cond (Region.binds .any e) (match done[e.on]? with
  | some u => match u.d with
   | some d => cond (Nat.beq d i) (some u.c) (edgeE done i es)
   | none => edgeE done i es
  | none => edgeE done i es) (edgeE done i es)
def unwritten (l : List Oper) (i : Nat) : Bool := match l with
 | [] => true
 | o :: l => match o.dst with
  | some d => cond (Nat.beq d i) false (unwritten l i)
  | none => unwritten l i
def evAt (l : List Oper) (t : List (Nat × EV)) (done : List EEn) (es : List Edge) (i : Nat) : EV :=
 match edgeE done i es with
 | some c => c
 | none => cond (unwritten l i) (eget t i) (cond (freeS l done.length i) (eget t i) .un)
def apartE (v u : EEn) : Bool := v.os.all (fun p => !hin p.1 (encH u.os) && !u.us.contains p.1) && u.os.all (fun p => !v.us.contains p.1)
def newE (v u : EEn) : Bool := match u.fr with
 | .no => true
 | .one d => (enc v.c).nom (Fr.one d).p && hnopE (Fr.one d).p v.os
 | .blk B => (enc v.c).nom (Fr.blk B).p && hnopE (Fr.blk B).p v.os
def fitE (l : List Oper) (u : EEn) (j : Nat) : Nat → List EEn → Bool
 | _, [] => true
 | i, v :: done => (apartE v u || aheadOf l j i) && newE v u && (newE u v || aheadOf l j i) && fitE l u j (i + 1) done
def exD (l : List Oper) (E : ESt) : List Oper → List EEn → {R : Type} → (ESt → Option R) → Option R
 | [], done, _, k => cond (dstsB l && backB 0 l) (k ⟨E.n, finTE E.t done, finHE E.h done⟩) none
 | o :: rest, done, _, k => match o.guard with
  | none => exO T CT E.n (evAt l E.t done o.after.toList) (ehget (finHE E.h done)) o fun c os us fr =>
   cond (fitE l ⟨o.dst, c, os, us, fr⟩ done.length 0 done && freshE fr E) (exD l E rest (done ++ [⟨o.dst, c, os, us, fr⟩]) k) none
  | some (j, b) => match done[j]? with
   | some v => match v.d with
    | some s => match v.c with
     | .sc .b c => cond (o.after.toList.any (fun e => Nat.beq e.on j && Region.binds .any e) && Nat.blt s E.n && dstIn o.dst E.n) (cond c
      (cond b (exO T CT E.n (evAt l E.t (done.set j ⟨v.d, .sc .b true, v.os, v.us, v.fr⟩) o.after.toList) (ehget (finHE E.h done)) o fun c os us fr =>
       cond (fitE l ⟨o.dst, c, os, us, fr⟩ done.length 0 done && freshE fr E) (exD l E rest (done.set j ⟨v.d, .sc .b true, v.os, v.us, v.fr⟩ ++ [⟨o.dst, c, os, us, fr⟩]) k) none)
       (cond (fitE l ⟨o.dst, .v (.tuple ⟨[]⟩), [], [], .no⟩ done.length 0 done) (exD l E rest (done.set j ⟨v.d, .sc .b true, v.os, v.us, v.fr⟩ ++ [⟨o.dst, .v (.tuple ⟨[]⟩), [], [], .no⟩]) k) none))
      (cond b (cond (fitE l ⟨o.dst, .v (.tuple ⟨[]⟩), [], [], .no⟩ done.length 0 done) (exD l E rest (done.set j ⟨v.d, .sc .b false, v.os, v.us, v.fr⟩ ++ [⟨o.dst, .v (.tuple ⟨[]⟩), [], [], .no⟩]) k) none)
       (exO T CT E.n (evAt l E.t (done.set j ⟨v.d, .sc .b false, v.os, v.us, v.fr⟩) o.after.toList) (ehget (finHE E.h done)) o fun c os us fr =>
        cond (fitE l ⟨o.dst, c, os, us, fr⟩ done.length 0 done && freshE fr E) (exD l E rest (done.set j ⟨v.d, .sc .b false, v.os, v.us, v.fr⟩ ++ [⟨o.dst, c, os, us, fr⟩]) k) none))) none
     | .v (.tuple ⟨[]⟩) => cond (o.after.toList.any (fun e => Nat.beq e.on j && Region.binds .any e) && Nat.blt s E.n && dstIn o.dst E.n)
      (cond (fitE l ⟨o.dst, .v (.tuple ⟨[]⟩), [], [], .no⟩ done.length 0 done) (exD l E rest (done ++ [⟨o.dst, .v (.tuple ⟨[]⟩), [], [], .no⟩]) k) none) none
     | _ => none
    | none => none
   | none => none
end
section
variable {P : Program} {T : TypeId → TInfo} {CT : List Ctr}
def bwI {α : Type} (xs : List α) : List (Int × α) := ((List.range xs.length).zip xs).reverse.map fun p => ((p.1 : Int), p.2)
@[reducible] def hdR : Sc := .pr (.i .i64) (.i .i64)
def itemE (q : Int × hdR.Val) : List EV := [.sc (.i .i64) q.1, valE hdR q.2]
structure BwOk (P : Program) (gf : Nat) : Prop where
 en : Enters P gf
 y : ∀ (Rd : Nat → Nat → Value → Prop) (us : List Value) (xs : List hdR.Val), (∀ b o u, GT b o u → Rd b o u) → LR (VR Rd none) [.fp [encS (.sl hdR) xs]] us →
  ∃ es : List (Array Value), es.length = xs.length ∧ (∀ (j : Nat) it x, (bwI xs)[j]? = some it → es[j]? = some x → LR (VR Rd none) (encL (itemE it)) x.toList) ∧ YieldsAll P gf us.toArray es fun W => ∀ b o u, Rd b o u → W.cell? ⟨b, o, none⟩ = some u
structure Place (P : Program) (T : TypeId → TInfo) (CT : List Ctr) : Prop where
 t : TOk P T
 c : ∀ c ∈ CT, c.ok P
 m : P.follows .mixedOrders = true
 b : ∀ q ∈ bwTab, BwOk P q
variable (hp : Place P T CT)
include hp
omit hp in
theorem nilC_ok {d : Nat} {t : TypeId} {x : Operand} {c : EV} {q : NilT} (h : nilC d t x c = some q) : q.d = d ∧ q.t = t ∧ q.x = x ∧ c ≠ .un ∧ ∃ tt sz2 rows, enc c = .sl tt sz2 rows ∧ (rows = [] ∨ sz2 = q.r.w) ∧ (rows = [] ↔ q.xs = []) := by
 unfold nilC at h
 split at h
 · cases h
   exact ⟨rfl, rfl, rfl, (by intro e; cases e), _, _, _, rfl, .inr rfl, by simp⟩
 · cases h
   exact ⟨rfl, rfl, rfl, (by intro e; cases e), _, _, _, rfl, .inr rfl, by simp⟩
 · cases h
   exact ⟨rfl, rfl, rfl, (by intro e; cases e), _, _, _, rfl, .inl rfl, by simp⟩
 · cases h
omit hp in
theorem isNilB_iff {α : Type} (xs : List α) : isNilB xs = true ↔ xs = [] := by cases xs <;> simp [isNilB]
omit hp in
theorem encC_keyVs {Rd : Nat → Nat → Value → Prop} {E : Option Env} : ∀ (s : Sc) (x : s.Val), s.key = true → LR (VR Rd E) (encC s x) (keyVs s x)
 | .i k, x, _ => LR.cons .v LR.nil
 | .b, x, _ => LR.cons .v LR.nil
 | .sl _, _, h => by cases h
 | .u, _, _ => LR.nil
 | .pr a c, p, h => by
  simp only [Sc.key, Bool.and_eq_true] at h
  exact (encC_keyVs a p.1 h.1).append (encC_keyVs c p.2 h.2)
omit hp in
theorem keyV_ok {s : Sc} (hk : s.key = true) (x : s.Val) (Rd : Nat → Nat → Value → Prop) (E : Option Env) : VR Rd E (enc (valE s x)) (keyV s x) := by
 cases s with
 | i k => exact .v
 | b => exact .v
 | sl r => cases hk
 | u => exact .ag [] rfl (fun j c u h => by cases h)
 | pr a c =>
  show VR Rd E (.ag (encL (splitC (.pr a c) x))) (.agg (keyVs (.pr a c) x).toArray)
  rw [encL_split]
  have := encC_keyVs (Rd := Rd) (E := E) (.pr a c) x hk
  exact .ag _ this.1 this.2
omit hp in
theorem itB_ok {E : ESt} {c : EV} {q : ItB} (h : itB E c = some q) : c = .pt q.k 0 ∧ hget (encE E).h q.k = some (.box itT [.mp q.km, .v (.int .i64 q.n0), .v (.int .i64 q.m), .v (.int .i64 q.c)]) ∧ hget (encE E).h q.km = some (.mp q.d (encM q.kc q.vc q.es)) := by
 unfold itB at h
 split at h
 · rename_i k
   split at h
   · rename_i t km n0 m c hk
     obtain ⟨h1, h2⟩ := cond_none h
     split at h2
     · rename_i d kc vc es hkm
       cases h2
       have := Nat.eq_of_beq_eq_true h1
       subst this
       refine ⟨rfl, ?_, ?_⟩
       · show hget (encH E.h) k = _
         rw [hget_enc, hk]; rfl
       · show hget (encH E.h) km = _
         rw [hget_enc, hkm]; rfl
     · cases h2
   · cases h
 · cases h
theorem exIt_ok {o : Oper} {q : ItT} (hq : itT? o = some q) {E : ESt} {R : Type} {k : ESt → Option R} {r : R} (h : exIt T q E k = some r) : SS P o (encE E) (fun s => ∃ E', s = encE E' ∧ k E' = some r) ∧ ∀ d, o.dst = some d → d < E.n := by
 obtain ⟨dst, op, ty, pos, af, gd⟩ := o
 unfold itT? at hq
 simp only at hq
 split at hq
 · rename_i d
   split at hq
   · rename_i t x
     cases hq
     simp only [exIt] at h
     split at h
     · rename_i j hx
       split at h
       · rename_i td kc vc es hj
         obtain ⟨h1, h2⟩ := cond_none h
         simp only [Bool.and_eq_true, Bool.not_eq_true'] at h1
         obtain ⟨⟨⟨g1, g2⟩, g3⟩, g4⟩ := h1
         have hd : d < E.n := Nat.le_of_ble_eq_true g1
         obtain ⟨⟨td2, z⟩, hm⟩ := Option.isSome_iff_exists.1 g2
         have hdj : d ≠ j := fun e => by rw [e, Nat.beq_refl] at g3; cases g3
         refine ⟨?_, fun d' hd' => by cases hd'; exact hd⟩
         have hf := freshE_ok g4
         have hxs : (encE E).ev x = .mp j := by rw [(Sk.enc E).is hx (by intro e; cases e)]; rfl
         have hks : hget (encE E).h j = some (.mp td (encM kc vc es)) := by
          show hget (encH E.h) j = _
          rw [hget_enc, hj]; rfl
         have := SS.range (P := P) (st := encE E) (ty := ty) (pos := pos) (af := af) (gd := gd) (d := d) (hp.t.mp _ _ hm) hxs hks hd hdj
          (K := fun s => s = ⟨(encE E).n, tput (some d) (.pt d 0) (tkill d (encE E).t), [(d, some (.box itT [.mp j, .v (.int .i64 ((encM kc vc es).length : Int)), .v (.int .i64 0), .v (.int .i64 (-1))]))] ++ hkill d (encE E).h⟩) rfl
         refine SS.mono (SS.fresh hf.t hf.h this) fun s hs => ?_
         subst hs
         refine ⟨_, SLe.refl, _, ?_, h2⟩
         simp only [encE, encM, List.length_map]
         rfl
       · cases h
     · cases h
   · rename_i x
     cases hq
     simp only [exIt] at h
     split at h
     · rename_i q hb
       obtain ⟨h1, h2⟩ := cond_none h
       obtain ⟨h2, h3⟩ := cond_none h2
       have hd : d < E.n := Nat.le_of_ble_eq_true h1
       obtain ⟨b1, b2, b3⟩ := itB_ok hb
       obtain ⟨k0, k1⟩ := dAll_some h3
       refine ⟨?_, fun d' hd' => by cases hd'; exact hd⟩
       have hlen : (encM q.kc q.vc q.es).length = q.es.length := by simp [encM]
       refine SS.next (by rw [(Sk.enc E).is b1 (by intro e; cases e)]; rfl) b2 b3 (by rw [hlen]; exact of_decide_eq_true h2) hd (fun ha => ?_) fun j hj hbj => ?_
       · exact ⟨_, rfl, k0 fun j hj => ha j (by rw [hlen]; exact hj)⟩
       · exact ⟨_, rfl, k1 j (by rw [← hlen]; exact hj) hbj⟩
     · cases h
   · rename_i x
     cases hq
     simp only [exIt] at h
     split at h
     · rename_i q hb
       obtain ⟨h1, h2⟩ := cond_none h
       obtain ⟨h2, h3⟩ := cond_none h2
       obtain ⟨p, hn, h4⟩ := obind_some h3
       simp only [Bool.and_eq_true] at h1
       have hd : d < E.n := Nat.le_of_ble_eq_true h1.1
       obtain ⟨b1, b2, b3⟩ := itB_ok hb
       obtain ⟨hc, hn⟩ := nthI_some hn
       refine ⟨?_, fun d' hd' => by cases hd'; exact hd⟩
       have hlen : (encM q.kc q.vc q.es).length = q.es.length := by simp [encM]
       have := RS.entry (P := P) (dd := some d) (ty := ty) (pos := pos) (af := af) (gd := gd) (st := encE E) (x := x) (kv := keyV q.kc p.1) (kc := enc (valE q.kc p.1)) (cv := enc (valE q.vc p.2)) (by rw [(Sk.enc E).is b1 (by intro e; cases e)]; rfl) b2 b3 (by rw [hlen]; exact of_decide_eq_true h2) hc
        (by simp only [encM, List.getElem?_map, hn]; rfl) (keyV_ok h1.2 p.1)
       exact SS.read this hd ⟨_, rfl, h4⟩
     · cases h
   · cases hq
 · cases hq
theorem exStep_ok {o : Oper} {E : ESt} {R : Type} {k : ESt → Option R} {r : R} (h : exStep T CT o E k = some r) : SS P o (encE E) (fun s => ∃ E', s = encE E' ∧ k E' = some r) ∧ ∀ d, o.dst = some d → d < E.n := by
 unfold exStep at h
 split at h
 · rename_i q hq
   exact exIt_ok hp hq h
 split at h
 · rename_i q hq
   obtain ⟨h1, h2⟩ := cond_none h
   simp only [Bool.and_eq_true] at h1
   obtain ⟨dst, op, ty, pos, af, gd⟩ := o
   unfold nilT at hq
   simp only at hq
   split at hq
   · rename_i d
     split at hq
     · rename_i t x t2
       obtain ⟨e1, e2, e3, hne, tt, sz2, rows, henc, hsz, hnil⟩ := nilC_ok hq
       subst e1 e2 e3
       obtain ⟨⟨g1, g2⟩, g3⟩ := h1
       have hd : q.d < E.n := Nat.le_of_ble_eq_true g1
       have hw : 0 < q.r.w := Nat.le_of_ble_eq_true g2
       obtain ⟨⟨et, esz, eb, ez⟩, he⟩ := Option.isSome_iff_exists.1 g3
       refine ⟨?_, fun d' hd' => by cases hd'; exact hd⟩
       have hx : (encE E).ev q.x = .sl tt sz2 rows := by rw [(Sk.enc E).is rfl hne, henc]
       refine SS.nilEq (hp.t.el _ _ he) hx (hsz.imp id fun e => by rw [e]; exact hw) hd fun b hb => ?_
       rcases cond_some h2 with ⟨hc, h3⟩ | ⟨hc, h3⟩
       · have := dem_iff.1 h3
         refine ⟨⟨E.n, (q.d, .sc .b b) :: E.t, E.h⟩, rfl, ?_⟩
         cases b
         · exact this.2
         · exact this.1
       · have hbf : b = false := by
          cases b with
          | false => rfl
          | true =>
           have := hnil.1 (hb rfl)
           rw [(isNilB_iff _).2 this] at hc
           cases hc
         subst hbf
         exact ⟨_, rfl, h3⟩
     · cases hq
   · cases hq
 · obtain ⟨c, os, us, fr, a, b, hd⟩ := exO_ok hp.t hp.c h
   obtain ⟨h1, h2⟩ := cond_none b
   refine ⟨SS.mono (K := fun s => s = encE ⟨E.n, tputE o.dst c E.t, os ++ E.h⟩) ?_ fun s hs => ⟨_, by rw [hs]; exact SLe.refl, _, rfl, h2⟩, hd⟩
   have := a (encE E) rfl (Sk.enc E) (Hk.enc E us) (freshE_ok h1)
   simp only [encE, encT_put, encH_append] at this ⊢
   exact this
omit hp in
theorem SLe.slotE {E : ESt} {s : Nat} {c : Bool} (hs : eget E.t s = .sc .b c) : SLe P (encE E) (encE ⟨E.n, (s, .sc .b c) :: E.t, E.h⟩) := by
 refine SLe.same (fun i => ?_) fun k => rfl
 rw [tget_enc, tget_enc]
 simp only [eget]
 by_cases hi : i = s
 · rw [hi, Nat.beq_refl, hs]; rfl
 · rw [beq_no hi]; rfl
theorem exG_ok {ops : List Oper} {o : Oper} {E : ESt} {R : Type} {k : ESt → Option R} {r : R} (h : exG T CT ops o E k = some r) : GS P ops.toArray o (encE E) (fun s => ∃ E', s = encE E' ∧ k E' = some r) := by
 obtain ⟨dst, op, ty, pos, af, gd⟩ := o
 unfold exG at h
 split at h
 · rename_i hg
   simp only at hg
   subst hg
   exact GS.plain rfl (exStep_ok hp h).1
 · rename_i j b hg
   simp only at hg
   subst hg
   split at h
   · rename_i s hs
     split at h
     · rename_i c hc
       obtain ⟨h1, h2⟩ := cond_none h
       simp only [Bool.and_eq_true] at h1
       have hs' : (ops.toArray[j]?).bind (·.dst) = some s := by simpa using hs
       have hsn : s < E.n := Nat.le_of_ble_eq_true h1.1
       have hdn : ∀ d, dst = some d → d < E.n := fun d e => by
        have := h1.2
        simp only [e, dstIn] at this
        exact Nat.le_of_ble_eq_true this
       have hle := SLe.slotE (P := P) hc
       have take : ∀ (c' : Bool), c = c' → b = c' → exStep T CT ⟨dst, op, ty, pos, af, some (j, b)⟩ ⟨E.n, (s, .sc .b c') :: E.t, E.h⟩ k = some r → GS P ops.toArray ⟨dst, op, ty, pos, af, some (j, b)⟩ (encE E) (fun s => ∃ E', s = encE E' ∧ k E' = some r) := by
        intro c' e1 e2 hk
        subst e1 e2
        exact GS.le hle (GS.taken rfl hs' hsn (by simp [encE, encT, tget, enc, encS]) (exStep_ok hp hk).1)
       have leave : ∀ (c' : Bool), c = c' → (c' == b) = false → k (skipE dst ⟨E.n, (s, .sc .b c') :: E.t, E.h⟩) = some r → GS P ops.toArray ⟨dst, op, ty, pos, af, some (j, b)⟩ (encE E) (fun s => ∃ E', s = encE E' ∧ k E' = some r) := by
        intro c' e1 e2 hk
        subst e1
        refine GS.le hle (GS.left (b := b) (c := c) rfl hs' hsn (by simp [encE, encT, tget, enc, encS]) e2 hdn ⟨_, ?_, hk⟩)
        cases dst <;> rfl
       rcases cond_some h2 with ⟨hcc, h3⟩ | ⟨hcc, h3⟩
       · rcases cond_some h3 with ⟨hb, h4⟩ | ⟨hb, h4⟩
         · exact take true hcc hb h4
         · exact leave true hcc (by rw [hb]; rfl) h4
       · rcases cond_some h3 with ⟨hb, h4⟩ | ⟨hb, h4⟩
         · exact leave false hcc (by rw [hb]; rfl) h4
         · exact take false hcc hb h4
     · rename_i hc
       obtain ⟨h1, h2⟩ := cond_none h
       simp only [Bool.and_eq_true] at h1
       have hs' : (ops.toArray[j]?).bind (·.dst) = some s := by simpa using hs
       have hsn : s < E.n := Nat.le_of_ble_eq_true h1.1
       have hdn : ∀ d, dst = some d → d < E.n := fun d e => by
        have := h1.2
        simp only [e, dstIn] at this
        exact Nat.le_of_ble_eq_true this
       refine GS.leftU (b := b) rfl hs' hsn ?_ hdn ⟨_, ?_, h2⟩
       · rw [show tget (encE E).t s = enc (eget E.t s) from tget_enc E.t s, hc]; rfl
       · cases dst <;> rfl
     · cases h
   · cases h
theorem exL_ok {ops : List Oper} : ∀ {l : List Oper} {E : ESt} {R : Type} {k : ESt → Option R} {r : R}, exL T CT ops l E k = some r → AL P ops.toArray l (encE E) (fun s => ∃ E', s = encE E' ∧ k E' = some r)
 | [], E, R, k, r, h => AL.nil ⟨E, rfl, h⟩
 | o :: l, E, R, k, r, h => by
  simp only [exL] at h
  refine AL.cons fun K' hK' => ?_
  have a := exG_ok hp h
  intro w0 Rd0 e a' w next Q hg hn
  refine a w0 Rd0 e a' w next Q hg fun st' hst' => hn st' (hK' st' ?_)
  obtain ⟨E', rfl, b⟩ := hst'
  exact exL_ok b
omit hp in
theorem encT_fin (pl : List EEn) (t : List (Nat × EV)) : encT (finTE t pl) = finT (encT t) (pl.map encN) := by
 induction pl generalizing t with
 | nil => rfl
 | cons u pl ih => simp only [finTE, List.map_cons, finT, ih, encT_put]; rfl
omit hp in
theorem encH_fin (pl : List EEn) (h : EHp) : encH (finHE h pl) = finH (encH h) (pl.map encN) := by
 induction pl generalizing h with
 | nil => rfl
 | cons u pl ih => simp only [finHE, List.map_cons, finH, ih, encH_append]; rfl
omit hp in
theorem edgeE_ok {done : List EEn} {i : Nat} : ∀ {es : List Edge} {c : EV}, edgeE done i es = some c → ∃ e ∈ es, Region.binds .any e = true ∧ ∃ u, done[e.on]? = some u ∧ u.d = some i ∧ u.c = c
 | [], c, h => by cases h
 | e :: es, c, h => by
  simp only [edgeE] at h
  rcases cond_some h with ⟨hb, h⟩ | ⟨hb, h⟩
  · split at h
    · rename_i u hu
      split at h
      · rename_i d hd
        rcases cond_some h with ⟨hd', h⟩ | ⟨_, h⟩
        · cases h
          have := Nat.eq_of_beq_eq_true hd'
          subst this
          exact ⟨e, by simp, hb, u, hu, hd, rfl⟩
        · obtain ⟨e', h1, h2⟩ := edgeE_ok h
          exact ⟨e', by simp [h1], h2⟩
      · obtain ⟨e', h1, h2⟩ := edgeE_ok h
        exact ⟨e', by simp [h1], h2⟩
    · obtain ⟨e', h1, h2⟩ := edgeE_ok h
      exact ⟨e', by simp [h1], h2⟩
  · obtain ⟨e', h1, h2⟩ := edgeE_ok h
    exact ⟨e', by simp [h1], h2⟩
omit hp in
theorem unwritten_ok : ∀ {l : List Oper} {i : Nat}, unwritten l i = true → (l.all fun o => o.dst != some i) = true
 | [], i, _ => rfl
 | o :: l, i, h => by
  simp only [unwritten] at h
  simp only [List.all_cons, Bool.and_eq_true]
  split at h
  · rename_i d hd
    rcases condB h with ⟨h1, h2⟩ | ⟨h1, h2⟩
    · cases h2
    · refine ⟨?_, unwritten_ok h2⟩
      rw [hd]
      have : d ≠ i := fun e => by rw [e, Nat.beq_refl] at h1; cases h1
      simpa using this
  · rename_i hd
    exact ⟨by rw [hd]; rfl, unwritten_ok h⟩
omit hp in
theorem Kn.sk {l : List Oper} {E : ESt} {done : List EEn} {o : Oper} {u : En} {st : St} (hk : Kn l (encE E) (done.map encN) o u st) : Sk (evAt l E.t done o.after.toList) st := by
 intro i
 unfold evAt
 split
 · rename_i c hc
   obtain ⟨e, he, hb, v, hv, hd, rfl⟩ := edgeE_ok hc
   exact .inr (hk.ts e (by simpa using he) hb (encN v) i (by rw [List.getElem?_map, hv]; rfl) hd)
 · cases h1 : unwritten l i with
   | true => exact .inr ((hk.t0 i (unwritten_ok h1)).trans (tget_enc E.t i))
   | false =>
    cases h2 : freeS l done.length i with
    | true => exact .inr ((hk.t1 i (by rw [List.length_map]; exact h2)).trans (tget_enc E.t i))
    | false => exact .inl rfl
omit hp in
theorem Kn.hk {l : List Oper} {E : ESt} {done : List EEn} {o : Oper} {u : EEn} {st : St} (hk : Kn l (encE E) (done.map encN) o (encN u) st) : Hk (ehget (finHE E.h done)) u.us st := by
 intro k hkk
 rw [hk.h k hkk, ← hget_enc, encH_fin]; rfl
omit hp in
theorem newE_ok {v u : EEn} (h : newE v u = true) : (encN v).c.nom (encN u).fr = true ∧ hnop (encN u).fr (encN v).os = true := by
 obtain ⟨d, c, os, us, fr⟩ := u
 cases fr with
 | no => exact ⟨nom_ff _, hnop_ff _⟩
 | one d => simp only [newE, Bool.and_eq_true] at h; exact ⟨h.1, hnopE_ok h.2⟩
 | blk B => simp only [newE, Bool.and_eq_true] at h; exact ⟨h.1, hnopE_ok h.2⟩
omit hp in
theorem fitE_ok {l : List Oper} {u : EEn} {j : Nat} : ∀ {i : Nat} {done : List EEn}, fitE l u j i done = true → fitB l (encN u) j i (done.map encN)
 | i, [], _ => trivial
 | i, v :: done, h => by
  simp only [fitE, Bool.and_eq_true, Bool.or_eq_true] at h
  obtain ⟨⟨⟨h1, h2⟩, h3⟩, h4⟩ := h
  refine ⟨h1.imp (fun h => ?_) id, ⟨newE_ok h2, h3.imp newE_ok id⟩, fitE_ok h4⟩
  simp only [apartE, Bool.and_eq_true] at h
  simp only [apartB, Bool.and_eq_true]
  have key : ∀ (os : EHp) (q : Nat → Bool), os.all (fun p => q p.1) = (encH os).all (fun p => q p.1) := by
   intro os q
   induction os with
   | nil => rfl
   | cons p os ih => obtain ⟨k, o⟩ := p; simp only [encH, List.all_cons, ih]
  exact ⟨by rw [show (encN v).os = encH v.os from rfl, ← key v.os (fun k => !hin k (encN u).os && !(encN u).us.contains k)]; exact h.1, by rw [show (encN u).os = encH u.os from rfl, ← key u.os (fun k => !(encN v).us.contains k)]; exact h.2⟩
omit hp in
theorem PD.snoc {l : List Oper} {st0 : St} {done : List En} {o : Oper} {u : En} (hpd : PD P l st0 done) (ho : l[done.length]? = some o) (hd : o.dst = u.d) (hstep : DS P l st0 done o u) (hfit : fitB l u done.length 0 done) (hnew : tnop u.fr st0.t = true ∧ hnop u.fr st0.h = true) : PD P l st0 (done ++ [u]) := by
 have hlt : done.length < l.length := (List.getElem?_eq_some_iff.1 ho).1
 refine ⟨by simp; omega, fun j o' u' ho' hu' => ?_, fun i j v u' hij hv hu' => ?_, fun j u' hu' => ?_⟩
 · rcases Nat.lt_trichotomy j done.length with hj | hj | hj
   · rw [List.getElem?_append_left hj] at hu'
     rw [List.take_append_of_le_length (by omega)]
     exact hpd.step j o' u' ho' hu'
   · subst hj
     simp at hu'
     subst hu'
     obtain rfl := Option.some.inj (ho.symm.trans ho')
     refine ⟨hd, ?_⟩
     rw [List.take_left]
     exact hstep
   · rw [List.getElem?_eq_none (by simp; omega)] at hu'; cases hu'
 · rcases Nat.lt_trichotomy j done.length with hj | hj | hj
   · rw [List.getElem?_append_left hj] at hu'
     rw [List.getElem?_append_left (by omega)] at hv
     exact hpd.fit i j v u' hij hv hu'
   · subst hj
     simp at hu'
     subst hu'
     rw [List.getElem?_append_left hij] at hv
     have := fitB_get hfit i v hv
     rwa [Nat.zero_add] at this
   · rw [List.getElem?_eq_none (by simp; omega)] at hu'; cases hu'
 · rcases Nat.lt_trichotomy j done.length with hj | hj | hj
   · rw [List.getElem?_append_left hj] at hu'; exact hpd.new0 j u' hu'
   · subst hj
     simp at hu'
     subst hu'
     exact hnew
   · rw [List.getElem?_eq_none (by simp; omega)] at hu'; cases hu'
omit hp in
theorem freshE_new {fr : Fr} {E : ESt} (h : freshE fr E = true) : tnop fr.p (encE E).t = true ∧ hnop fr.p (encE E).h = true := by
 cases fr with
 | no => exact ⟨tnop_ff _, hnop_ff _⟩
 | one d => simp only [freshE, Bool.and_eq_true] at h; exact ⟨h.1, hnopE_ok h.2⟩
 | blk B => simp only [freshE, Bool.and_eq_true] at h; exact ⟨h.1, hnopE_ok h.2⟩
omit hp in
theorem FS.ds {l : List Oper} {E : ESt} {done : List EEn} {o : Oper} {c : EV} {os : EHp} {us : List Nat} {fr : Fr} {st : St} (h : FS P o E.n (evAt l E.t done o.after.toList) (ehget (finHE E.h done)) c os us fr) (hk : Kn l (encE E) (done.map encN) o (encN ⟨o.dst, c, os, us, fr⟩) st) :
 SS P o st (fun s => s = ⟨st.n, tput o.dst (enc c) st.t, encH os ++ st.h⟩) :=
 h st hk.n hk.sk (Kn.hk hk) ⟨hk.ft, hk.fh, hk.fk⟩
theorem exD_ok {l : List Oper} {E : ESt} : ∀ {rest : List Oper} {done : List EEn} {R : Type} {k : ESt → Option R} {r : R}, exD T CT l E rest done k = some r → rest = l.drop done.length → PD P l (encE E) (done.map encN) →
   ∃ pl, Plan P l (encE E) (pl.map encN) ∧ k ⟨E.n, finTE E.t pl, finHE E.h pl⟩ = some r
 | [], done, R, k, r, h, hr, hpd => by
   simp only [exD] at h
   obtain ⟨h1, h2⟩ := cond_none h
   simp only [Bool.and_eq_true] at h1
   have hlen : (done.map encN).length = l.length := by
     have h1 := hpd.len
     have h2 := congrArg List.length hr
     simp at h1 h2 ⊢
     omega
   exact ⟨done, ⟨hlen, hpd.step, hpd.fit, hpd.new0, h1.1, fun j o ho e he hbi => by have := backB_get h1.2 j o ho e he hbi; omega⟩, h2⟩
 | o :: rest, done, R, k, r, h, hr, hpd => by
   have ho : l[done.length]? = some o := by
     have := congrArg (fun x => x[0]?) hr
     simpa using this.symm
   have hr' : rest = l.drop (done.length + 1) := by
     have : l.drop (done.length + 1) = (l.drop done.length).drop 1 := by rw [List.drop_drop]
     rw [this, ← hr]; rfl
   have go : ∀ (u : EEn), o.dst = u.d → DS P l (encE E) (done.map encN) o (encN u) → fitE l u done.length 0 done = true → freshE u.fr E = true → ∀ {R : Type} {k : ESt → Option R} {r : R}, exD T CT l E rest (done ++ [u]) k = some r → ∃ pl, Plan P l (encE E) (pl.map encN) ∧ k ⟨E.n, finTE E.t pl, finHE E.h pl⟩ = some r := by
     intro u hd hds hfit hfr R k r hk
     refine exD_ok hk (by rw [List.length_append]; exact hr') ?_
     rw [List.map_append]
     have hl : (done.map encN).length = done.length := List.length_map _
     exact hpd.snoc (by rw [hl]; exact ho) hd hds (by rw [hl]; exact fitE_ok hfit) (freshE_new hfr)
   simp only [exD] at h
   split at h
   · rename_i hg
     obtain ⟨c, os, us, fr, a, b, hd⟩ := exO_ok hp.t hp.c h
     obtain ⟨h1, h2⟩ := cond_none b
     simp only [Bool.and_eq_true] at h1
     exact go ⟨o.dst, c, os, us, fr⟩ rfl (fun st hk => GS.plain hg (a.ds hk)) h1.1 h1.2 h2
   · rename_i j b hg
     split at h
     · rename_i v hv
       split at h
       · rename_i s hs
         split at h
         · rename_i c hc
           obtain ⟨h1, h2⟩ := cond_none h
           simp only [Bool.and_eq_true] at h1
           obtain ⟨⟨q1, q2⟩, q3⟩ := h1
           have hsn : s < E.n := Nat.le_of_ble_eq_true q2
           have hdn : ∀ d, o.dst = some d → d < E.n := fun d e => by
             simp only [e, dstIn] at q3
             exact Nat.le_of_ble_eq_true q3
           obtain ⟨e, he, hej⟩ := List.any_eq_true.1 q1
           simp only [Bool.and_eq_true] at hej
           have hej1 := Nat.eq_of_beq_eq_true hej.1
           have hset : ∀ c', c = c' → done.set j ⟨v.d, .sc .b c', v.os, v.us, v.fr⟩ = done := fun c' e => by
             subst e
             rw [← hc]
             obtain ⟨hj, rfl⟩ := List.getElem?_eq_some_iff.1 hv
             exact List.set_getElem_self hj
           have hjl : (l.toArray[j]?).bind (·.dst) = some s := by
             have hj := (List.getElem?_eq_some_iff.1 hv).1
             have hpl := hpd.len
             rw [List.length_map] at hpl
             have hlj : l[j]? = some l[j] := List.getElem?_eq_getElem (by omega)
             have := (hpd.step j _ (encN v) hlj (by rw [List.getElem?_map, hv]; rfl)).1
             simp only [List.getElem?_toArray, hlj, Option.bind_some, this]
             exact hs
           have hval : ∀ {u : En} {st : St}, Kn l (encE E) (done.map encN) o u st → tget st.t s = .v (.bool c) := fun hk => by
             have := hk.ts e (by simpa using he) hej.2 (encN v) s (by rw [List.getElem?_map, hej1, hv]; rfl) hs
             rw [this]
             show enc v.c = _
             rw [hc]; rfl
           have take : ∀ c', c = c' → b = c' → (exO T CT E.n (evAt l E.t (done.set j ⟨v.d, .sc .b c', v.os, v.us, v.fr⟩) o.after.toList) (ehget (finHE E.h done)) o fun c os us fr =>
                 cond (fitE l ⟨o.dst, c, os, us, fr⟩ done.length 0 done && freshE fr E) (exD T CT l E rest (done.set j ⟨v.d, .sc .b c', v.os, v.us, v.fr⟩ ++ [⟨o.dst, c, os, us, fr⟩]) k) none) = some r → ∃ pl, Plan P l (encE E) (pl.map encN) ∧ k ⟨E.n, finTE E.t pl, finHE E.h pl⟩ = some r := by
             intro c' e1 e2 hh
             rw [hset c' e1] at hh
             obtain ⟨c2, os, us, fr, a, bb, hd⟩ := exO_ok hp.t hp.c hh
             obtain ⟨g1, g2⟩ := cond_none bb
             simp only [Bool.and_eq_true] at g1
             exact go ⟨o.dst, c2, os, us, fr⟩ rfl (fun st hk => GS.taken hg hjl (by rw [hk.n]; exact hsn) (by rw [e2, ← e1]; exact hval hk) (a.ds hk)) g1.1 g1.2 g2
           have leave : ∀ c', c = c' → (c' == b) = false → (cond (fitE l ⟨o.dst, .v (.tuple ⟨[]⟩), [], [], .no⟩ done.length 0 done) (exD T CT l E rest (done.set j ⟨v.d, .sc .b c', v.os, v.us, v.fr⟩ ++ [⟨o.dst, .v (.tuple ⟨[]⟩), [], [], .no⟩]) k) none) = some r → ∃ pl, Plan P l (encE E) (pl.map encN) ∧ k ⟨E.n, finTE E.t pl, finHE E.h pl⟩ = some r := by
             intro c' e1 e2 hh
             rw [hset c' e1] at hh
             obtain ⟨g1, g2⟩ := cond_none hh
             refine go ⟨o.dst, .v (.tuple ⟨[]⟩), [], [], .no⟩ rfl (fun st hk => ?_) g1 rfl g2
             obtain ⟨dst, op, ty, pos, af, gd⟩ := o
             refine GS.left (b := b) (c := c) hg hjl (by rw [hk.n]; exact hsn) (hval hk) (by rw [e1]; exact e2) (fun d e => by rw [hk.n]; exact hdn d e) ?_
             cases dst <;> rfl
           rcases cond_some h2 with ⟨hcc, h3⟩ | ⟨hcc, h3⟩
           · rcases cond_some h3 with ⟨hb, h4⟩ | ⟨hb, h4⟩
             · exact take true hcc hb h4
             · exact leave true hcc (by rw [hb]; rfl) h4
           · rcases cond_some h3 with ⟨hb, h4⟩ | ⟨hb, h4⟩
             · exact leave false hcc (by rw [hb]; rfl) h4
             · exact take false hcc hb h4
         · rename_i hc
           obtain ⟨h1, h2⟩ := cond_none h
           simp only [Bool.and_eq_true] at h1
           obtain ⟨⟨q1, q2⟩, q3⟩ := h1
           obtain ⟨g1, g2⟩ := cond_none h2
           have hsn : s < E.n := Nat.le_of_ble_eq_true q2
           have hdn : ∀ d, o.dst = some d → d < E.n := fun d e => by
             simp only [e, dstIn] at q3
             exact Nat.le_of_ble_eq_true q3
           obtain ⟨e, he, hej⟩ := List.any_eq_true.1 q1
           simp only [Bool.and_eq_true] at hej
           have hej1 := Nat.eq_of_beq_eq_true hej.1
           have hjl : (l.toArray[j]?).bind (·.dst) = some s := by
             have hj := (List.getElem?_eq_some_iff.1 hv).1
             have hpl := hpd.len
             rw [List.length_map] at hpl
             have hlj : l[j]? = some l[j] := List.getElem?_eq_getElem (by omega)
             have := (hpd.step j _ (encN v) hlj (by rw [List.getElem?_map, hv]; rfl)).1
             simp only [List.getElem?_toArray, hlj, Option.bind_some, this]
             exact hs
           refine go ⟨o.dst, .v (.tuple ⟨[]⟩), [], [], .no⟩ rfl (fun st hk => ?_) g1 rfl g2
           have hval : tget st.t s = .v undef := by
             have := hk.ts e (by simpa using he) hej.2 (encN v) s (by rw [List.getElem?_map, hej1, hv]; rfl) hs
             rw [this]
             show enc v.c = _
             rw [hc]; rfl
           obtain ⟨dst, op, ty, pos, af, gd⟩ := o
           refine GS.leftU (b := b) hg hjl (by rw [hk.n]; exact hsn) hval (fun d e => by rw [hk.n]; exact hdn d e) ?_
           cases dst <;> rfl
         · cases h
       · cases h
     · cases h
theorem exD_region {t : Bool} {l : List Oper} {E : ESt} {R : Type} {k : ESt → Option R} {r : R} {id : Nat} (h : exD T CT l E l [] k = some r) : AC t P (.region id l.toArray true) (encE E) (fun x s => x = .normal ∧ ∃ E', s = encE E' ∧ k E' = some r) := by
 obtain ⟨pl, h1, h2⟩ := exD_ok hp h rfl ⟨by simp, fun j o u _ hu => by simp at hu, fun i j v u _ hv => by simp at hv, fun j u hu => by simp at hu⟩
 refine AC.plan hp.m h1 ⟨rfl, _, ?_, h2⟩
 simp only [encE, encT_fin, encH_fin]
theorem exL_region {t : Bool} {l : List Oper} {E : ESt} {R : Type} {k : ESt → Option R} {r : R} {id : Nat} (h : exL T CT l l E k = some r) : AC t P (.region id l.toArray false) (encE E) (fun x s => x = .normal ∧ ∃ E', s = encE E' ∧ k E' = some r) := by
 refine AC.region ?_
 have := exL_ok hp h
 intro w0 Rd0 e a w Q hg hn
 exact this w0 Rd0 e a w Q hg fun st' hs => hn st' ⟨rfl, hs⟩
end
end
end
noncomputable section
open Go Go.RowKit
noncomputable section
section
variable {P : Program}
theorem SR.reob {w0 : Bs} {w : World} {Rd0 : Nat → Nat → Value → Prop} {e : Env} {h : Hp} (hs : SR w0 Rd0 e h w) {b : Nat} {o o' : Ob} (hb : hget h b = some o) (ho : OR (RDx w0 Rd0 e h w) e w b o') :
 SR w0 Rd0 e ((b, some o') :: h) w ∧ ∀ b1 o1 u, RDx w0 Rd0 e h w b1 o1 u → RDx w0 Rd0 e ((b, some o') :: h) w b1 o1 u := by
 have old : ∀ j ob, hget ((b, some o') :: h) j = some ob → ∃ ob0, hget h j = some ob0 := fun j ob hj => by
  by_cases hjb : j = b
  · subst hjb; exact ⟨o, hb⟩
  · rw [hget_other hjb] at hj; exact ⟨ob, hj⟩
 have hR : ∀ b1 o1 u, RDx w0 Rd0 e h w b1 o1 u → RDx w0 Rd0 e ((b, some o') :: h) w b1 o1 u := fun b1 o1 u hr => ⟨hr.1, hr.2.1, fun j ob hj hbj => by
  obtain ⟨ob0, h0⟩ := old j ob hj
  exact hr.2.2 j ob0 h0 hbj⟩
 refine ⟨⟨hs.ext, hs.good, fun j ob hj => ?_, fun j ob b1 hj hbj => ?_, fun j j' ob ob' b1 h1 h2 b2 b3 => ?_, hs.pin⟩, hR⟩
 · refine OR.mono hR ?_
   by_cases hjb : j = b
   · subst hjb
     rw [hget_same] at hj
     cases hj
     exact ho
   · rw [hget_other hjb] at hj
     exact hs.ob j ob hj
 · obtain ⟨ob0, h0⟩ := old j ob hj
   exact hs.base j ob0 b1 h0 hbj
 · obtain ⟨ob1, g1⟩ := old j ob h1
   obtain ⟨ob2, g2⟩ := old j' ob' h2
   exact hs.inj j j' ob1 ob2 b1 g1 g2 b2 b3
theorem SLe.wk {n : Nat} {t t2 : List (Nat × AV)} {h h2 : Hp} (ht : ∀ i, Wk (tget t i) (tget t2 i)) (hh : ∀ k ob', hget h2 k = some ob' → ∃ ob, hget h k = some ob ∧ ∀ Rd e w, OR Rd e w k ob → OR Rd e w k ob') : SLe P ⟨n, t, h⟩ ⟨n, t2, h2⟩ := by
 intro w0 Rd0 e a w hg
 have hR : ∀ b o u, RDx w0 Rd0 e h w b o u → RDx w0 Rd0 e h2 w b o u := fun b o u hr => ⟨hr.1, hr.2.1, fun j ob hj hbj => by
  obtain ⟨ob0, h0, _⟩ := hh j ob hj
  exact hr.2.2 j ob0 h0 hbj⟩
 refine ⟨e, hg.n, hg.d, ⟨hg.sr.ext, hg.sr.good, fun j ob hj => ?_, fun j ob b hj hb => ?_, fun j j' ob ob' b h1 h2' b1 b2 => ?_, hg.sr.pin⟩, fun i => ht i _ _ _ ((hg.tr i).mono hR)⟩
 · obtain ⟨ob0, h0, h1⟩ := hh j ob hj
   exact (h1 _ _ _ (hg.sr.ob j ob0 h0)).mono hR
 · obtain ⟨ob0, h0, _⟩ := hh j ob hj
   exact hg.sr.base j ob0 b h0 hb
 · obtain ⟨ob1, g1, _⟩ := hh j ob h1
   obtain ⟨ob2, g2, _⟩ := hh j' ob' h2'
   exact hg.sr.inj j j' ob1 ob2 b g1 g2 b1 b2
theorem nil_val {Rd : Nat → Nat → Value → Prop} {E : Option Env} {sz0 : Nat} {u : Value} (h : VR Rd E (.sl true sz0 []) u) : ∃ ad, u = .slice ad 0 0 := by
 obtain ⟨ad, cap, us, hav, _, _, _, _, _, ht, _⟩ := h.sl_inv
 have := ht rfl
 simp only [List.length_nil] at this hav
 subst this
 exact ⟨ad, hav⟩
variable {st : St}
theorem SLe.ownAg (i j k : Nat) (hk0 : k < 4294967296) (t : TypeId) (sz : Nat) {sz0 : Nat} {cs : List AV} (hi : tget st.t i = .ag cs) (hj : cs[j]? = some (.sl true sz0 [])) :
 SLe P st ⟨st.n, (i, .ag ((cs.map (AV.kill k)).set j (.ow k))) :: tkill k st.t, (k, some (.arr t sz [] true)) :: hkill k st.h⟩ := by
 intro w0 Rd0 e a w hg
 have hv := hg.tr i
 rw [hi] at hv
 obtain ⟨us, hus, hlr⟩ := VR.ag_inv hv
 obtain ⟨u, huj, hvj⟩ := hlr.get hj
 obtain ⟨ad, rfl⟩ := nil_val hvj
 obtain ⟨hs1, hR1⟩ := hg.sr.kill k
 obtain ⟨hs2, hR2⟩ := hs1.newNil k t sz ad (hnom_kill k st.h) hk0
 refine ⟨_, hg.n, hg.d, hs2, fun q => ?_⟩
 simp only [tget]
 split
 · rename_i hq
   subst hq
   rw [hus]
   have h1 : LR (VR (RDx w0 Rd0 (e.upd k none (.slice ad 0 0) 0) ((k, some (.arr t sz [] true)) :: hkill k st.h) w) (some (e.upd k none (.slice ad 0 0) 0))) (cs.map (AV.kill k)) us :=
    ⟨by simpa using hlr.1, fun m c x hc hx => by
     rw [List.getElem?_map] at hc
     obtain ⟨c0, hc0, rfl⟩ := Option.map_eq_some_iff.1 hc
     exact ((((hlr.2 m c0 x hc0 hx).kill k).mono hR1).mono hR2).env rfl k (kill_ment k c0) (fun _ hi => Env.upd_blk' hi) (fun _ hi => Env.upd_sv' hi)⟩
   have h2 := h1.set j (c := .ow k) (u := .slice ad 0 0) (by
    have := VR.ow (Rd := RDx w0 Rd0 (e.upd k none (.slice ad 0 0) 0) ((k, some (.arr t sz [] true)) :: hkill k st.h) w) (e := e.upd k none (.slice ad 0 0) 0) (k := k)
    rw [Env.upd_sv] at this
    exact this)
   have h3 : us.set j (.slice ad 0 0) = us := by
    obtain ⟨hl, he⟩ := List.getElem?_eq_some_iff.1 huj
    rw [← he]; exact List.set_getElem_self hl
   rw [h3] at h2
   exact .ag us h2.1 h2.2
 · exact ((((hg.tr.kill k).mono hR1).mono hR2).env k (tnom_kill k st.t) (fun _ hi => Env.upd_blk' hi) (fun _ hi => Env.upd_sv' hi)) q
theorem SLe.ownBx (b j k : Nat) (hk0 : k < 4294967296) (t : TypeId) (sz : Nat) {sz0 : Nat} {bt : TypeId} {cs : List AV} (hb : hget st.h b = some (.box bt cs)) (hj : cs[j]? = some (.sl true sz0 [])) (hbk : b ≠ k) :
 SLe P st ⟨st.n, tkill k st.t, (b, some (.box bt ((cs.map (AV.kill k)).set j (.ow k)))) :: (k, some (.arr t sz [] true)) :: hkill k st.h⟩ := by
 intro w0 Rd0 e a w hg
 obtain ⟨hl0, bb, us, hbb, hus, hlr⟩ := hg.sr.ob _ _ hb
 obtain ⟨u, huj, hvj⟩ := hlr.get hj
 obtain ⟨ad, rfl⟩ := nil_val hvj
 obtain ⟨hs1, hR1⟩ := hg.sr.kill k
 obtain ⟨hs2, hR2⟩ := hs1.newNil k t sz ad (hnom_kill k st.h) hk0
 have h1 : LR (VR (RDx w0 Rd0 (e.upd k none (.slice ad 0 0) 0) ((k, some (.arr t sz [] true)) :: hkill k st.h) w) (some (e.upd k none (.slice ad 0 0) 0))) (cs.map (AV.kill k)) us :=
  ⟨by simpa using hlr.1, fun m c x hc hx => by
   rw [List.getElem?_map] at hc
   obtain ⟨c0, hc0, rfl⟩ := Option.map_eq_some_iff.1 hc
   exact ((((hlr.2 m c0 x hc0 hx).kill k).mono hR1).mono hR2).env rfl k (kill_ment k c0) (fun _ hi => Env.upd_blk' hi) (fun _ hi => Env.upd_sv' hi)⟩
 have h2 := h1.set j (c := .ow k) (u := .slice ad 0 0) (by
  have := VR.ow (Rd := RDx w0 Rd0 (e.upd k none (.slice ad 0 0) 0) ((k, some (.arr t sz [] true)) :: hkill k st.h) w) (e := e.upd k none (.slice ad 0 0) 0) (k := k)
  rw [Env.upd_sv] at this
  exact this)
 have h3 : us.set j (.slice ad 0 0) = us := by
  obtain ⟨hl, he⟩ := List.getElem?_eq_some_iff.1 huj
  rw [← he]; exact List.set_getElem_self hl
 rw [h3] at h2
 obtain ⟨hs3, hR3⟩ := hs2.reob (b := b) (o := (Ob.kill k (.box bt cs))) (o' := .box bt ((cs.map (AV.kill k)).set j (.ow k))) (by rw [hget_other hbk, hget_kill, hb]; rfl)
  ⟨by rw [Env.upd_lent' hbk]; exact hl0, bb, us, by rw [Env.upd_blk' hbk]; exact hbb, hus, h2⟩
 exact ⟨_, hg.n, hg.d, hs3, (((hg.tr.kill k).mono hR1).mono hR2).env k (tnom_kill k st.t) (fun _ hi => Env.upd_blk' hi) (fun _ hi => Env.upd_sv' hi) |>.mono hR3⟩
theorem SLe.moveBx (b j k p : Nat) (hp0 : p < 4294967296) (hpk : p ≠ k) (hbp : b ≠ p) (hbk : b ≠ k) {bt : TypeId} {cs : List AV} {t : TypeId} {sz : Nat} {rows : List (List AV)} {wr : Bool} (hb : hget st.h b = some (.box bt cs)) (hj : cs[j]? = some (.ow k)) (hk : hget st.h k = some (.arr t sz rows wr)) :
 SLe P st ⟨st.n, tkill p st.t, (b, some (.box bt ((cs.map (AV.kill p)).set j (.ow p)))) :: (p, some (.arr t sz rows wr)) :: (k, none) :: hkill p st.h⟩ := by
 intro w0 Rd0 e a w hg
 obtain ⟨hl0, bb, us, hbb, hus, hlr⟩ := hg.sr.ob _ _ hb
 obtain ⟨u, huj, hvj⟩ := hlr.get hj
 cases hvj
 obtain ⟨hs1, hR1⟩ := hg.sr.kill p
 obtain ⟨hs2, hR2⟩ := hs1.moveTo (k := k) (d := p) (ob := .arr t sz rows wr) (by rw [hget_kill, hk]; rfl) hpk (hnom_kill p st.h) hp0
 have h1 : LR (VR (RDx w0 Rd0 (e.upd p (e.blk k) (e.sv k) (e.lent k)) ((p, some (.arr t sz rows wr)) :: (k, none) :: hkill p st.h) w) (some (e.upd p (e.blk k) (e.sv k) (e.lent k)))) (cs.map (AV.kill p)) us :=
  ⟨by simpa using hlr.1, fun m c x hc hx => by
   rw [List.getElem?_map] at hc
   obtain ⟨c0, hc0, rfl⟩ := Option.map_eq_some_iff.1 hc
   exact ((((hlr.2 m c0 x hc0 hx).kill p).mono hR1).mono hR2).env rfl p (kill_ment p c0) (fun _ hi => Env.upd_blk' hi) (fun _ hi => Env.upd_sv' hi)⟩
 have h2 := h1.set j (c := .ow p) (u := e.sv k) (by
  have := VR.ow (Rd := RDx w0 Rd0 (e.upd p (e.blk k) (e.sv k) (e.lent k)) ((p, some (.arr t sz rows wr)) :: (k, none) :: hkill p st.h) w) (e := e.upd p (e.blk k) (e.sv k) (e.lent k)) (k := p)
  rw [Env.upd_sv] at this
  exact this)
 have h3 : us.set j (e.sv k) = us := by
  obtain ⟨hl, he⟩ := List.getElem?_eq_some_iff.1 huj
  rw [← he]; exact List.set_getElem_self hl
 rw [h3] at h2
 obtain ⟨hs3, hR3⟩ := hs2.reob (b := b) (o := (Ob.kill p (.box bt cs))) (o' := .box bt ((cs.map (AV.kill p)).set j (.ow p))) (by rw [hget_other hbp, hget_other hbk, hget_kill, hb]; rfl)
  ⟨by rw [Env.upd_lent' hbp]; exact hl0, bb, us, by rw [Env.upd_blk' hbp]; exact hbb, hus, h2⟩
 exact ⟨_, hg.n, hg.d, hs3, (((hg.tr.kill p).mono hR1).mono hR2).env p (tnom_kill p st.t) (fun _ hi => Env.upd_blk' hi) (fun _ hi => Env.upd_sv' hi) |>.mono hR3⟩
theorem SLe.moveSl (i k p : Nat) (hp0 : p < 4294967296) (hpk : p ≠ k) {t : TypeId} {sz : Nat} {rows : List (List AV)} {wr : Bool} (hi : tget st.t i = .ow k) (hk : hget st.h k = some (.arr t sz rows wr)) :
 SLe P st ⟨st.n, (i, .ow p) :: tkill p st.t, (p, some (.arr t sz rows wr)) :: (k, none) :: hkill p st.h⟩ := by
 intro w0 Rd0 e a w hg
 have hv := hg.tr i
 rw [hi] at hv
 obtain ⟨hs1, hR1⟩ := hg.sr.kill p
 obtain ⟨hs2, hR2⟩ := hs1.moveTo (k := k) (d := p) (ob := .arr t sz rows wr) (by rw [hget_kill, hk]; rfl) hpk (hnom_kill p st.h) hp0
 refine ⟨_, hg.n, hg.d, hs2, fun q => ?_⟩
 simp only [tget]
 split
 · rename_i hq
   subst hq
   generalize a.tmps.getD q undef = u at hv
   cases hv
   have := VR.ow (Rd := RDx w0 Rd0 (e.upd p (e.blk k) (e.sv k) (e.lent k)) ((p, some (.arr t sz rows wr)) :: (k, none) :: hkill p st.h) w) (e := e.upd p (e.blk k) (e.sv k) (e.lent k)) (k := p)
   rw [Env.upd_sv] at this
   exact this
 · exact ((((hg.tr.kill p).mono hR1).mono hR2).env p (tnom_kill p st.t) (fun _ hi => Env.upd_blk' hi) (fun _ hi => Env.upd_sv' hi)) q
theorem SLe.lendAg (i j : Nat) {k : Nat} {t : TypeId} {sz : Nat} {rows : List (List AV)} {wr : Bool} {cs : List AV} (hi : tget st.t i = .ag cs) (hj : cs[j]? = some (.ow k)) (hk : hget st.h k = some (.arr t sz rows wr)) :
 SLe P st ⟨st.n, (i, .ag (cs.set j (.sl false sz rows))) :: st.t, (k, some (.arr t sz rows false)) :: st.h⟩ := by
 intro w0 Rd0 e a w hg
 obtain ⟨e', h1, h2, h3, h4, h5⟩ := hg.sr.lend hk
 have hg' := hg.lent (⟨h1, h2, h3, h4⟩ : Lent w0 Rd0 e st.h w e' ((k, some (.arr t sz rows false)) :: st.h))
 refine ⟨e', hg'.n, hg'.d, hg'.sr, fun q => ?_⟩
 simp only [tget]
 split
 · rename_i hq
   subst hq
   have hv := hg.tr q
   rw [hi] at hv
   obtain ⟨us, hus, hlr⟩ := VR.ag_inv hv
   rw [hus]
   obtain ⟨u, huj, hvj⟩ := hlr.get hj
   cases hvj
   have hl' : LR (VR (RDx w0 Rd0 e' ((k, some (.arr t sz rows false)) :: st.h) w) (some e')) cs us := hlr.imp fun _ _ hv => (hv.mono h2).envEq rfl h3 h4
   have := hl'.set j (c := .sl false sz rows) (u := e.sv k) h5.some_of_none
   have h6 : us.set j (e.sv k) = us := by
    obtain ⟨hl, he⟩ := List.getElem?_eq_some_iff.1 huj
    rw [← he]; exact List.set_getElem_self hl
   rw [h6] at this
   exact .ag us this.1 this.2
 · exact hg'.tr q
theorem SLe.lendBx (b j : Nat) {k : Nat} {t : TypeId} {sz : Nat} {rows : List (List AV)} {wr : Bool} {bt : TypeId} {cs : List AV} (hb : hget st.h b = some (.box bt cs)) (hj : cs[j]? = some (.ow k)) (hk : hget st.h k = some (.arr t sz rows wr)) :
 SLe P st ⟨st.n, st.t, (b, some (.box bt (cs.set j (.sl false sz rows)))) :: (k, some (.arr t sz rows false)) :: st.h⟩ := by
 intro w0 Rd0 e a w hg
 have hbk : b ≠ k := fun e => by rw [e, hk] at hb; cases hb
 obtain ⟨e', h1, h2, h3, h4, h5⟩ := hg.sr.lend hk
 have hg' := hg.lent (⟨h1, h2, h3, h4⟩ : Lent w0 Rd0 e st.h w e' ((k, some (.arr t sz rows false)) :: st.h))
 have hb' : hget ((k, some (Ob.arr t sz rows false)) :: st.h) b = some (.box bt cs) := by rw [hget_other hbk]; exact hb
 obtain ⟨hl0, bb, us, hbb, hus, hlr⟩ := hg'.sr.ob _ _ hb'
 obtain ⟨u, huj, hvj⟩ := hlr.get hj
 cases hvj
 have := hlr.set j (c := .sl false sz rows) (u := e'.sv k) (by rw [h4]; exact h5.some_of_none)
 have h6 : us.set j (e'.sv k) = us := by
  obtain ⟨hl, he⟩ := List.getElem?_eq_some_iff.1 huj
  rw [← he]; exact List.set_getElem_self hl
 rw [h6] at this
 obtain ⟨hs3, hR3⟩ := hg'.sr.reob hb' (o' := .box bt (cs.set j (.sl false sz rows))) ⟨hl0, bb, us, hbb, hus, this⟩
 exact ⟨e', hg'.n, hg'.d, hs3, hg'.tr.mono hR3⟩
theorem SLe.ownNr (b j k : Nat) (hk0 : k < 4294967296) (t : TypeId) (sz : Nat) {sz0 : Nat} {bt : TypeId} {cs : List AV} (hb : hget st.h b = some (.nr bt cs)) (hj : cs[j]? = some (.sl true sz0 [])) (hbk : b ≠ k) :
 SLe P st ⟨st.n, tkill k st.t, (b, some (.nr bt ((cs.map (AV.kill k)).set j (.ow k)))) :: (k, some (.arr t sz [] true)) :: hkill k st.h⟩ := by
 intro w0 Rd0 e a w hg
 obtain ⟨hl0, hrow⟩ := hg.sr.ob _ _ hb
 have hj0 : j < cs.length := (List.getElem?_eq_some_iff.1 hj).1
 rcases hrow with ⟨hnil, _⟩ | ⟨bb, cap, cur, hbb, hsv, hcap, hm, hcur, hcs, hlr⟩
 · subst hnil; simp at hj0
 obtain ⟨u, huj, hvj⟩ := hlr.get hj
 obtain ⟨ad, cap0, us0, hav, _, _, _, _, _, htt, _⟩ := hvj.sl_inv
 have hc0 := htt rfl
 simp only [List.length_nil] at hc0 hav
 subst hc0
 subst hav
 obtain ⟨hs1, hR1⟩ := hg.sr.kill k
 obtain ⟨hs2, hR2⟩ := hs1.newNil k t sz ad (hnom_kill k st.h) hk0
 have h1 : LR (VR (RDx w0 Rd0 (e.upd k none (.slice ad 0 0) 0) ((k, some (.arr t sz [] true)) :: hkill k st.h) w) (some (e.upd k none (.slice ad 0 0) 0))) (cs.map (AV.kill k)) (cur.toList.take cs.length) :=
  ⟨by simpa using hlr.1, fun m c x hc hx => by
   rw [List.getElem?_map] at hc
   obtain ⟨c0, hc0, rfl⟩ := Option.map_eq_some_iff.1 hc
   exact ((((hlr.2 m c0 x hc0 hx).kill k).mono hR1).mono hR2).env rfl k (kill_ment k c0) (fun _ hi => Env.upd_blk' hi) (fun _ hi => Env.upd_sv' hi)⟩
 have h2 := h1.set j (c := .ow k) (u := .slice ad 0 0) (by
  have := VR.ow (Rd := RDx w0 Rd0 (e.upd k none (.slice ad 0 0) 0) ((k, some (.arr t sz [] true)) :: hkill k st.h) w) (e := e.upd k none (.slice ad 0 0) 0) (k := k)
  rw [Env.upd_sv] at this
  exact this)
 have h3 : (cur.toList.take cs.length).set j (.slice ad 0 0) = cur.toList.take cs.length := by
  obtain ⟨hl, he⟩ := List.getElem?_eq_some_iff.1 huj
  rw [← he]; exact List.set_getElem_self hl
 rw [h3] at h2
 have hln : ((cs.map (AV.kill k)).set j (.ow k)).length = cs.length := by simp
 have hold : hget ((k, some (Ob.arr t sz [] true)) :: hkill k st.h) b = some (Ob.kill k (.nr bt cs)) := by rw [hget_other hbk, hget_kill, hb]; rfl
 have hob : OR (RDx w0 Rd0 (e.upd k none (.slice ad 0 0) 0) ((k, some (.arr t sz [] true)) :: hkill k st.h) w) (e.upd k none (.slice ad 0 0) 0) w b (.nr bt ((cs.map (AV.kill k)).set j (.ow k))) :=
  ⟨by rw [Env.upd_lent' hbk]; exact hl0, .inr ⟨bb, cap, cur, by rw [Env.upd_blk' hbk]; exact hbb, by rw [Env.upd_sv' hbk, hln]; exact hsv, by rw [hln]; exact hcap, hm, hcur, hcs, by rw [hln]; exact h2⟩⟩
 obtain ⟨hs3, hR3⟩ := hs2.reob hold hob
 exact ⟨_, hg.n, hg.d, hs3, (((hg.tr.kill k).mono hR1).mono hR2).env k (tnom_kill k st.t) (fun _ hi => Env.upd_blk' hi) (fun _ hi => Env.upd_sv' hi) |>.mono hR3⟩
theorem SLe.lendNr (b j : Nat) {k : Nat} {t : TypeId} {sz : Nat} {rows : List (List AV)} {wr : Bool} {bt : TypeId} {cs : List AV} (hb : hget st.h b = some (.nr bt cs)) (hj : cs[j]? = some (.ow k)) (hk : hget st.h k = some (.arr t sz rows wr)) :
 SLe P st ⟨st.n, st.t, (b, some (.nr bt (cs.set j (.sl false sz rows)))) :: (k, some (.arr t sz rows false)) :: st.h⟩ := by
 intro w0 Rd0 e a w hg
 have hbk : b ≠ k := fun e => by rw [e, hk] at hb; cases hb
 obtain ⟨e', h1, h2, h3, h4, h5⟩ := hg.sr.lend hk
 have hg' := hg.lent (⟨h1, h2, h3, h4⟩ : Lent w0 Rd0 e st.h w e' ((k, some (.arr t sz rows false)) :: st.h))
 have hb' : hget ((k, some (Ob.arr t sz rows false)) :: st.h) b = some (.nr bt cs) := by rw [hget_other hbk]; exact hb
 obtain ⟨hl0, hrow⟩ := hg'.sr.ob _ _ hb'
 have hj0 : j < cs.length := (List.getElem?_eq_some_iff.1 hj).1
 rcases hrow with ⟨hnil, _⟩ | ⟨bb, cap, cur, hbb, hsv, hcap, hm, hcur, hcs, hlr⟩
 · subst hnil; simp at hj0
 obtain ⟨u, huj, hvj⟩ := hlr.get hj
 cases hvj
 have := hlr.set j (c := .sl false sz rows) (u := e'.sv k) (by rw [h4]; exact h5.some_of_none)
 have h6 : (cur.toList.take cs.length).set j (e'.sv k) = cur.toList.take cs.length := by
  obtain ⟨hl, he⟩ := List.getElem?_eq_some_iff.1 huj
  rw [← he]; exact List.set_getElem_self hl
 rw [h6] at this
 have hln : (cs.set j (.sl false sz rows)).length = cs.length := by simp
 obtain ⟨hs3, hR3⟩ := hg'.sr.reob hb' (o' := .nr bt (cs.set j (.sl false sz rows))) ⟨hl0, .inr ⟨bb, cap, cur, hbb, by rw [hln]; exact hsv, by rw [hln]; exact hcap, hm, hcur, hcs, by rw [hln]; exact this⟩⟩
 exact ⟨e', hg'.n, hg'.d, hs3, hg'.tr.mono hR3⟩
end
def renT (π : Nat → Nat) : List (Nat × EV) → List (Nat × EV)
 | [] => []
 | (i, c) :: t => (i, renE π c) :: renT π t
theorem encT_ren (π : Nat → Nat) : ∀ t, encT (renT π t) = tren π (encT t)
 | [] => rfl
 | (i, c) :: t => by simp only [renT, encT, tren, enc_ren, encT_ren π t]
def swpB (a b k : Nat) : Nat := cond (Nat.beq k a) b (cond (Nat.beq k b) a k)
theorem swpB_eq (a b : Nat) : swpB a b = swp a b := by
 funext k
 unfold swpB swp
 by_cases h1 : k = a
 · subst h1; rw [Nat.beq_refl]; simp
 · rw [beq_no h1, if_neg h1]
   by_cases h2 : k = b
   · subst h2; rw [Nat.beq_refl]; simp
   · rw [beq_no h2, if_neg h2]; rfl
def swapE (a b : Nat) (E : ESt) : ESt := ⟨E.n, renT (swpB a b) E.t, renEH (swpB a b) E.h⟩
def killE (k : Nat) (c : EV) : EV := cond ((enc c).ment k) .un c
theorem enc_kill (k : Nat) (c : EV) : enc (killE k c) = (enc c).kill k := by
 unfold killE AV.kill
 cases (enc c).ment k <;> rfl
def killT (k : Nat) : List (Nat × EV) → List (Nat × EV)
 | [] => []
 | (i, c) :: t => (i, killE k c) :: killT k t
theorem encT_kill (k : Nat) : ∀ t, encT (killT k t) = tkill k (encT t)
 | [] => rfl
 | (i, c) :: t => by simp only [killT, encT, tkill, enc_kill, encT_kill k t]
def killHo (k : Nat) : Option (Int × Option Nat) → Option (Int × Option Nat)
 | some (i, some j) => cond (Nat.beq j k) (some (i, none)) (some (i, some j))
 | o => o
def killO (k : Nat) : EOb → EOb
 | .box t cs => .box t (cs.map (killE k))
 | .arr t r xs wr => .arr t r xs wr
 | .mp d kc vc es => .mp d kc vc es
 | .nr t r xs ho => .nr t r xs (killHo k ho)
theorem encL_kill (k : Nat) (cs : List EV) : encL (cs.map (killE k)) = (encL cs).map (AV.kill k) := by
 rw [encL_map, encL_map, List.map_map, List.map_map]
 exact List.map_congr_left fun c _ => enc_kill k c
theorem nrC_kill (k : Nat) (r : Sc) (xs : List (List r.Val)) (ho : Option (Int × Option Nat)) : nrC r xs (killHo k ho) = (nrC r xs ho).map (AV.kill k) := by
 have h0 : (xs.map (nrA r)).map (AV.kill k) = xs.map (nrA r) := by
  rw [List.map_map]
  exact List.map_congr_left fun x _ => by cases x <;> rfl
 match ho with
 | none => exact h0.symm
 | some (i, none) => simp only [killHo, nrC, List.map_set, h0]; rfl
 | some (i, some j) =>
  simp only [killHo, nrC, List.map_set, h0]
  by_cases h : j = k
  · subst h
    rw [Nat.beq_refl]
    simp [nrH, AV.kill, AV.ment]
  · rw [beq_no h]
    simp [nrH, AV.kill, AV.ment, h]
theorem encO_kill (k : Nat) (o : EOb) : encO (killO k o) = (encO o).kill k := by
 cases o with
 | box t cs => simp only [killO, encO, Ob.kill, encL_kill]
 | arr => rfl
 | mp => rfl
 | nr t r xs ho => simp only [killO, encO, Ob.kill, nrC_kill]
def killH (k : Nat) : EHp → EHp
 | [] => []
 | (j, o) :: h => (j, match o with
  | some o => some (killO k o)
  | none => none) :: killH k h
theorem encH_kill (k : Nat) : ∀ h, encH (killH k h) = hkill k (encH h)
 | [] => rfl
 | (j, o) :: h => by
  cases o with
  | none => simp only [killH, encH, hkill, Option.map, encH_kill k h]
  | some o => simp only [killH, encH, hkill, Option.map, encH_kill k h, encO_kill]
def ownE (i p : Nat) (t : TypeId) (r : Sc) (E : ESt) : ESt := ⟨E.n, (i, .ow p) :: killT p E.t, (p, some (.arr t r [] true)) :: killH p E.h⟩
def pget : List (Nat × PO) → Nat → Option PO
 | [], _ => none
 | (j, o) :: t, i => cond (Nat.beq i j) (some o) (pget t i)
def swapG (a b : Nat) (E : ESt) : ESt := cond (Nat.blt a 4294967296 && Nat.blt b 4294967296) (swapE a b E) E
def moveS (i k p : Nat) (E : ESt) : ESt := match ehget E.h k with
 | some (.arr t r xs wr) => cond (Nat.blt k 4294967296 || !(Nat.blt p 4294967296)) (swapG k p E) ⟨E.n, (i, .ow p) :: killT p E.t, (p, some (.arr t r xs wr)) :: (k, none) :: killH p E.h⟩
 | _ => swapG k p E
def moveB (b j k p : Nat) (bt : TypeId) (cs : List EV) (E : ESt) : ESt := match ehget E.h k with
 | some (.arr t r xs wr) => cond (Nat.blt k 4294967296 || !(Nat.blt p 4294967296) || Nat.beq b p || Nat.beq b k) (swapG k p E) ⟨E.n, killT p E.t, (b, some (.box bt ((cs.map (killE p)).set j (.ow p)))) :: (p, some (.arr t r xs wr)) :: (k, none) :: killH p E.h⟩
 | _ => swapG k p E
def nameS (ph : List (Nat × PO)) (i : Nat) (pv : PV) (E : ESt) : ESt :=
 match pv with
 | .k c => match c with
  | .ow p => match eget E.t i with
   | .ow k => cond (Nat.beq k p) E (moveS i k p E)
   | .nil => match pget ph p with
    | some (.arr t r _) => cond (Nat.blt i E.n && Nat.blt p 4294967296) (ownE i p t r E) E
    | _ => E
   | _ => E
  | .pt p _ => match eget E.t i with
   | .pt k _ => cond (Nat.beq k p) E (swapG k p E)
   | _ => E
  | .mp p => match eget E.t i with
   | .mp k => cond (Nat.beq k p) E (swapG k p E)
   | _ => E
  | _ => E
 | .h _ => match eget E.t i with
  | .ow k => match ehget E.h k with
   | some (.arr t r xs _) => ⟨E.n, (i, .sc (.sl r) xs) :: E.t, (k, some (.arr t r xs false)) :: E.h⟩
   | _ => E
  | _ => E
 | _ => E
def nameA (ph : List (Nat × PO)) (i j : Nat) (pv : PV) (E : ESt) : ESt :=
 match eget E.t i with
 | .ag cs => match cs[j]? with
  | some c => match pv with
   | .k c0 => match c0 with
    | .ow p => match c with
     | .ow k => cond (Nat.beq k p) E (swapG k p E)
     | .nil => match pget ph p with
      | some (.arr t r _) => cond (Nat.blt p 4294967296) ⟨E.n, (i, .ag ((cs.map (killE p)).set j (.ow p))) :: killT p E.t, (p, some (.arr t r [] true)) :: killH p E.h⟩ E
      | _ => E
     | _ => E
    | _ => E
   | .h _ => match c with
    | .ow k => match ehget E.h k with
     | some (.arr t r xs _) => ⟨E.n, (i, .ag (cs.set j (.sc (.sl r) xs))) :: E.t, (k, some (.arr t r xs false)) :: E.h⟩
     | _ => E
    | _ => E
   | _ => E
  | none => E
 | _ => E
def nameB (ph : List (Nat × PO)) (b j : Nat) (pv : PV) (E : ESt) : ESt :=
 match ehget E.h b with
 | some (.box bt cs) => match cs[j]? with
  | some c => match pv with
   | .k c0 => match c0 with
    | .ow p => match c with
     | .ow k => cond (Nat.beq k p) E (moveB b j k p bt cs E)
     | .nil => match pget ph p with
      | some (.arr t r _) => cond (Nat.beq b p || !(Nat.blt p 4294967296)) E ⟨E.n, killT p E.t, (b, some (.box bt ((cs.map (killE p)).set j (.ow p)))) :: (p, some (.arr t r [] true)) :: killH p E.h⟩
      | _ => E
     | _ => E
    | .pt p _ => match c with
     | .pt k _ => cond (Nat.beq k p) E (swapG k p E)
     | _ => E
    | .mp p => match c with
     | .mp k => cond (Nat.beq k p) E (swapG k p E)
     | _ => E
    | _ => E
   | .h _ => match c with
    | .ow k => match ehget E.h k with
     | some (.arr t r xs _) => ⟨E.n, E.t, (b, some (.box bt (cs.set j (.sc (.sl r) xs)))) :: (k, some (.arr t r xs false)) :: E.h⟩
     | _ => E
    | _ => E
   | _ => E
  | none => E
 | _ => E
def freeP (p : Nat) (E : ESt) : ESt := match ehget E.h p with
 | some _ => swapG p (4000000 + p) E
 | none => E
def nilF (pv : PV) (c : EV) (E : ESt) : ESt := match pv with
 | .k c0 => match c0 with
  | .ow p => match c with
   | .nil => freeP p E
   | _ => E
  | _ => E
 | _ => E
def cellA (i j : Nat) (E : ESt) : EV := match eget E.t i with
 | .ag cs => (cs[j]?).getD .un
 | _ => .un
def cellB (b j : Nat) (E : ESt) : EV := match ehget E.h b with
 | some (.box _ cs) => (cs[j]?).getD .un
 | _ => .un
def nameAs (ph : List (Nat × PO)) (i : Nat) : Nat → List PV → ESt → ESt
 | _, [], E => E
 | j, p :: ps, E => nameAs ph i (j + 1) ps (nameA ph i j p (nilF p (cellA i j E) E))
def nameBs (ph : List (Nat × PO)) (b : Nat) : Nat → List PV → ESt → ESt
 | _, [], E => E
 | j, p :: ps, E => nameBs ph b (j + 1) ps (nameB ph b j p (nilF p (cellB b j E) E))
def cellC (i j : Nat) (E : ESt) : EV := match eget E.t i with
 | .cl _ fs cs => ((fs ++ cs)[j]?).getD .un
 | _ => .un
def nameC (i j : Nat) (pv : PV) (E : ESt) : ESt := match pv with
 | .k c0 => match c0 with
  | .ow p => match cellC i j E with
   | .ow k => cond (Nat.beq k p) E (swapG k p E)
   | _ => E
  | .pt p _ => match cellC i j E with
   | .pt k _ => cond (Nat.beq k p) E (swapG k p E)
   | _ => E
  | .mp p => match cellC i j E with
   | .mp k => cond (Nat.beq k p) E (swapG k p E)
   | _ => E
  | _ => E
 | _ => E
def nameCs (i : Nat) : Nat → List PV → ESt → ESt
 | _, [], E => E
 | j, p :: ps, E => nameCs i (j + 1) ps (nameC i j p E)
def nameT (ph : List (Nat × PO)) : List (Nat × PV) → ESt → ESt
 | [], E => E
 | (i, pv) :: t, E => nameT ph t (match pv with
  | .ag l => nameAs ph i 0 l E
  | .cl _ fs cs => nameCs i 0 (fs ++ cs) E
  | pv => nameS ph i pv (nilF pv (eget E.t i) E))
def nameN (k p : Nat) (E : ESt) : ESt := match ehget E.h k with
 | some (.nr _ _ _ (some (_, some j))) => cond (Nat.beq j p) E (swapG j p E)
 | _ => E
def nameH (ph : List (Nat × PO)) : List (Nat × PO) → ESt → ESt
 | [], E => E
 | (k, o) :: h, E => nameH ph h (match o with
  | .box _ l => nameBs ph k 0 l E
  | .nr _ _ (some (_, p)) => nameN k p E
  | _ => E)
section
variable {P : Program}
theorem SLe.of_eq {s1 s2 : St} (h : s1 = s2) : SLe P s1 s2 := h ▸ SLe.refl
theorem swapE_ok0 (a b : Nat) (ha : a < 4294967296) (hb : b < 4294967296) (E : ESt) : SLe P (encE E) (encE (swapE a b E)) := by
 have := SLe.swap (P := P) (st := encE E) a b ha hb
 simp only [encE, swapE, encT_ren, encH_ren, swpB_eq] at this ⊢
 exact this
theorem swapE_ok (a b : Nat) (E : ESt) : SLe P (encE E) (encE (swapG a b E)) := by
 unfold swapG
 cases h : (Nat.blt a 4294967296 && Nat.blt b 4294967296) with
 | false => exact SLe.refl
 | true =>
  simp only [Bool.and_eq_true] at h
  exact swapE_ok0 a b (Nat.le_of_ble_eq_true h.1) (Nat.le_of_ble_eq_true h.2) E
theorem condE {b : Bool} {x y : ESt} {s : St} (hx : SLe P s (encE x)) (hy : SLe P s (encE y)) : SLe P s (encE (cond b x y)) := by
 cases b
 · exact hy
 · exact hx
theorem ehget_ok {E : ESt} {k : Nat} {o : EOb} (h : ehget E.h k = some o) : hget (encE E).h k = some (encO o) := by
 show hget (encH E.h) k = _
 rw [hget_enc, h]; rfl
theorem eget_ok {E : ESt} {i : Nat} {c : EV} (h : eget E.t i = c) : tget (encE E).t i = enc c := by
 show tget (encT E.t) i = _
 rw [tget_enc, h]
theorem moveS_ok (i k p : Nat) (E : ESt) (hi : eget E.t i = .ow k) (hpk : (Nat.beq k p) = false) : SLe P (encE E) (encE (moveS i k p E)) := by
 unfold moveS
 split
 · rename_i t r xs wr hk
   cases hb : (Nat.blt k 4294967296 || !(Nat.blt p 4294967296)) with
   | true => exact swapE_ok _ _ _
   | false =>
    simp only [Bool.or_eq_false_iff, Bool.not_eq_false'] at hb
    have hne : p ≠ k := fun e => by rw [e, Nat.beq_refl] at hpk; cases hpk
    have := SLe.moveSl (P := P) (st := encE E) i k p (Nat.le_of_ble_eq_true hb.2) hne (eget_ok hi) (ehget_ok hk)
    simp only [encE, encT, encH, encT_kill, encH_kill, Option.map, encO, enc, cond_false] at this ⊢
    exact this
 · exact swapE_ok _ _ _
theorem encL_get0 {cs : List EV} {j : Nat} {c : EV} (h : cs[j]? = some c) : (encL cs)[j]? = some (enc c) := by rw [encL_map, List.getElem?_map, h]; rfl
theorem moveB_ok (b j k p : Nat) (bt : TypeId) (cs : List EV) (E : ESt) (hb : ehget E.h b = some (.box bt cs)) (hj : cs[j]? = some (.ow k)) (hpk : (Nat.beq k p) = false) : SLe P (encE E) (encE (moveB b j k p bt cs E)) := by
 unfold moveB
 split
 · rename_i t r xs wr hk
   cases hq : (Nat.blt k 4294967296 || !(Nat.blt p 4294967296) || Nat.beq b p || Nat.beq b k) with
   | true => exact swapE_ok _ _ _
   | false =>
    simp only [Bool.or_eq_false_iff, Bool.not_eq_false'] at hq
    have hne : p ≠ k := fun e => by rw [e, Nat.beq_refl] at hpk; cases hpk
    have h1 : b ≠ p := fun e => by have := hq.1.2; rw [e, Nat.beq_refl] at this; cases this
    have h2 : b ≠ k := fun e => by have := hq.2; rw [e, Nat.beq_refl] at this; cases this
    have := SLe.moveBx (P := P) (st := encE E) b j k p (Nat.le_of_ble_eq_true hq.1.1.2) hne h1 h2 (ehget_ok hb) (encL_get0 hj) (ehget_ok hk)
    simp only [encE, encT, encH, encT_kill, encH_kill, Option.map, encO, enc, encL_set, encL_kill, cond_false] at this ⊢
    exact this
 · exact swapE_ok _ _ _
theorem condE' {b : Bool} {x y : ESt} {s : St} (hx : SLe P s (encE x)) (hy : b = false → SLe P s (encE y)) : SLe P s (encE (cond b x y)) := by
 cases b with
 | true => exact hx
 | false => exact hy rfl
theorem nameS_ok (ph : List (Nat × PO)) (i : Nat) (pv : PV) (E : ESt) : SLe P (encE E) (encE (nameS ph i pv E)) := by
 unfold nameS
 split
 · split
   · split
     · rename_i k hk
       exact condE' SLe.refl fun hp => moveS_ok _ _ _ _ hk hp
     · rename_i hn
       split
       · rename_i p _ _ t r wr _
         cases hb : (Nat.blt i E.n && Nat.blt p 4294967296) with
         | false => exact SLe.refl
         | true =>
          simp only [Bool.and_eq_true] at hb
          have := SLe.own (P := P) (st := encE E) i p (Nat.le_of_ble_eq_true hb.2) t r.w (eget_ok hn) (Nat.le_of_ble_eq_true hb.1)
          simp only [ownE, encE, encT, encH, encT_kill, encH_kill, Option.map, encO, enc, List.map_nil, cond_true] at this ⊢
          exact this
       · exact SLe.refl
     · exact SLe.refl
   · split
     · exact condE SLe.refl (swapE_ok _ _ _)
     · exact SLe.refl
   · split
     · exact condE SLe.refl (swapE_ok _ _ _)
     · exact SLe.refl
   · exact SLe.refl
 · split
   · rename_i k hk
     split
     · rename_i t r xs wr ho
       refine SLe.lend (P := P) (st := encE E) i (c := .sl false r.w (List.map (encC r) xs)) ?_
       rw [eget_ok hk]
       simp only [enc, lendA, lendC, ehget_ok ho, encO]
       rfl
     · exact SLe.refl
   · exact SLe.refl
 · exact SLe.refl
theorem encL_get {cs : List EV} {j : Nat} {c : EV} (h : cs[j]? = some c) : (encL cs)[j]? = some (enc c) := by rw [encL_map, List.getElem?_map, h]; rfl
theorem nameA_ok (ph : List (Nat × PO)) (i j : Nat) (pv : PV) (E : ESt) : SLe P (encE E) (encE (nameA ph i j pv E)) := by
 unfold nameA
 split
 · rename_i cs hcs
   split
   · rename_i c hc
     split
     · split
       · split
         · exact condE SLe.refl (swapE_ok _ _ _)
         · split
           · rename_i p _ _ t r wr _
             cases hb : Nat.blt p 4294967296 with
             | false => exact SLe.refl
             | true =>
              have := SLe.ownAg (P := P) (st := encE E) i j p (Nat.le_of_ble_eq_true hb) t r.w (eget_ok hcs) (encL_get hc)
              simp only [encE, encT, encH, encT_kill, encH_kill, Option.map, encO, enc, List.map_nil, encL_set, encL_kill, cond_true] at this ⊢
              exact this
           · exact SLe.refl
         · exact SLe.refl
       · exact SLe.refl
     · split
       · rename_i k
         split
         · rename_i t r xs wr ho
           have := SLe.lendAg (P := P) (st := encE E) i j (eget_ok hcs) (encL_get hc) (ehget_ok ho)
           simp only [encE, encT, encH, Option.map, encO, enc, encL_set, encS] at this ⊢
           exact this
         · exact SLe.refl
       · exact SLe.refl
     · exact SLe.refl
   · exact SLe.refl
 · exact SLe.refl
theorem nameB_ok (ph : List (Nat × PO)) (b j : Nat) (pv : PV) (E : ESt) : SLe P (encE E) (encE (nameB ph b j pv E)) := by
 unfold nameB
 split
 · rename_i bt cs hcs
   split
   · rename_i c hc
     split
     · split
       · split
         · exact condE' SLe.refl fun hp => moveB_ok _ _ _ _ _ _ _ hcs hc hp
         · split
           · rename_i p _ _ t r wr _
             cases hb : (Nat.beq b p || !(Nat.blt p 4294967296)) with
             | true => exact SLe.refl
             | false =>
              simp only [Bool.or_eq_false_iff, Bool.not_eq_false'] at hb
              have hbp : b ≠ p := fun e => by have := hb.1; rw [e, Nat.beq_refl] at this; cases this
              have := SLe.ownBx (P := P) (st := encE E) b j p (Nat.le_of_ble_eq_true hb.2) t r.w (ehget_ok hcs) (encL_get hc) hbp
              simp only [encE, encT, encH, encT_kill, encH_kill, Option.map, encO, enc, List.map_nil, encL_set, encL_kill, cond_false] at this ⊢
              exact this
           · exact SLe.refl
         · exact SLe.refl
       · split
         · exact condE SLe.refl (swapE_ok _ _ _)
         · exact SLe.refl
       · split
         · exact condE SLe.refl (swapE_ok _ _ _)
         · exact SLe.refl
       · exact SLe.refl
     · split
       · rename_i k
         split
         · rename_i t r xs wr ho
           have := SLe.lendBx (P := P) (st := encE E) b j (ehget_ok hcs) (encL_get hc) (ehget_ok ho)
           simp only [encE, encT, encH, Option.map, encO, enc, encL_set, encS] at this ⊢
           exact this
         · exact SLe.refl
       · exact SLe.refl
     · exact SLe.refl
   · exact SLe.refl
 · exact SLe.refl
theorem nilF_ok (pv : PV) (c : EV) (E : ESt) : SLe P (encE E) (encE (nilF pv c E)) := by
 unfold nilF
 split
 · split
   · split
     · unfold freeP
       split
       · exact swapE_ok _ _ _
       · exact SLe.refl
     · exact SLe.refl
   · exact SLe.refl
 · exact SLe.refl
theorem nameAs_ok (ph : List (Nat × PO)) (i : Nat) : ∀ (ps : List PV) (j : Nat) (E : ESt), SLe P (encE E) (encE (nameAs ph i j ps E))
 | [], _, _ => SLe.refl
 | p :: ps, j, E => ((nilF_ok p _ E).trans (nameA_ok ph i j p _)).trans (nameAs_ok ph i ps (j + 1) _)
theorem nameBs_ok (ph : List (Nat × PO)) (b : Nat) : ∀ (ps : List PV) (j : Nat) (E : ESt), SLe P (encE E) (encE (nameBs ph b j ps E))
 | [], _, _ => SLe.refl
 | p :: ps, j, E => ((nilF_ok p _ E).trans (nameB_ok ph b j p _)).trans (nameBs_ok ph b ps (j + 1) _)
theorem swapC_ok (k p : Nat) (E : ESt) : SLe P (encE E) (encE (cond (Nat.beq k p) E (swapG k p E))) := condE SLe.refl (swapE_ok _ _ E)
theorem nameC_ok (i j : Nat) (pv : PV) (E : ESt) : SLe P (encE E) (encE (nameC i j pv E)) := by
 unfold nameC
 split
 · split
   · split
     · exact swapC_ok _ _ E
     · exact SLe.refl
   · split
     · exact swapC_ok _ _ E
     · exact SLe.refl
   · split
     · exact swapC_ok _ _ E
     · exact SLe.refl
   · exact SLe.refl
 · exact SLe.refl
theorem nameCs_ok (i : Nat) : ∀ (ps : List PV) (j : Nat) (E : ESt), SLe P (encE E) (encE (nameCs i j ps E))
 | [], _, _ => SLe.refl
 | p :: ps, j, E => (nameC_ok i j p E).trans (nameCs_ok i ps (j + 1) _)
theorem nameT_ok (ph : List (Nat × PO)) : ∀ (t : List (Nat × PV)) (E : ESt), SLe P (encE E) (encE (nameT ph t E))
 | [], _ => SLe.refl
 | (i, pv) :: t, E => by
  refine SLe.trans ?_ (nameT_ok ph t _)
  split
  · exact nameAs_ok ph i _ 0 E
  · exact nameCs_ok i _ 0 E
  · exact (nilF_ok _ _ E).trans (nameS_ok ph i _ _)
theorem nameN_ok (k p : Nat) (E : ESt) : SLe P (encE E) (encE (nameN k p E)) := by
 unfold nameN
 split
 · exact condE SLe.refl (swapE_ok _ _ E)
 · exact SLe.refl
theorem nameH_ok (ph : List (Nat × PO)) : ∀ (h : List (Nat × PO)) (E : ESt), SLe P (encE E) (encE (nameH ph h E))
 | [], _ => SLe.refl
 | (k, o) :: h, E => by
  refine SLe.trans ?_ (nameH_ok ph h _)
  split
  · exact nameBs_ok ph k _ 0 E
  · exact nameN_ok k _ E
  · exact SLe.refl
end
def fillT : List (Nat × PV) → List EV → List (Nat × EV) × List EV
 | [], cs => ([], cs)
 | (i, p) :: t, cs => ((i, (fillP p cs).1) :: (fillT t (fillP p cs).2).1, (fillT t (fillP p cs).2).2)
def valT (t0 : List (Nat × EV)) : List (Nat × PV) → Option (List EV)
 | [] => some []
 | (i, p) :: t => match valV p (eget t0 i) with
  | some a => match valT t0 t with
   | some b => some (a ++ b)
   | none => none
  | none => none
def valH (h0 : EHp) : List (Nat × PO) → Option (List EV)
 | [] => some []
 | (k, p) :: h => match ehget h0 k with
  | some o => match valO p o with
   | some a => match valH h0 h with
    | some b => some (a ++ b)
    | none => none
   | none => none
  | none => none
theorem valT_ok {t0 : List (Nat × EV)} : ∀ (t : List (Nat × PV)) {hs : List EV} (rest : List EV), valT t0 t = some hs → (fillT t (hs ++ rest)).2 = rest ∧ ∀ i, Wk (enc (eget t0 i)) (enc (eget (fillT t (hs ++ rest)).1 i))
 | [], hs, rest, h => by
  simp only [valT, Option.some.injEq] at h
  subst h
  exact ⟨rfl, fun i => Wk.un⟩
 | (i, p) :: t, hs, rest, h => by
  simp only [valT] at h
  split at h
  · rename_i a ha
    split at h
    · rename_i b hb
      cases h
      have h1 := valV_ok p (b ++ rest) ha
      have h2 := valT_ok t rest hb
      simp only [fillT, List.append_assoc, h1.1]
      refine ⟨h2.1, fun j => ?_⟩
      simp only [eget]
      by_cases hj : j = i
      · subst hj; rw [Nat.beq_refl]; exact h1.2
      · rw [beq_no hj]; exact h2.2 j
    · cases h
  · cases h
theorem valH_ok {h0 : EHp} : ∀ (t : List (Nat × PO)) {hs : List EV} (rest : List EV), valH h0 t = some hs →
 ∀ k o', ehget (fillH t (hs ++ rest)) k = some o' → ∃ o, ehget h0 k = some o ∧ ∀ Rd e w, OR Rd e w k (encO o) → OR Rd e w k (encO o')
 | [], hs, rest, h, k, o', ho => by cases ho
 | (i, p) :: t, hs, rest, h, k, o', ho => by
  simp only [valH] at h
  split at h
  · rename_i o hi
    split at h
    · rename_i a ha
      split at h
      · rename_i b hb
        cases h
        obtain ⟨h1, o1, h2, h3⟩ := valO_ok p (b ++ rest) ha
        simp only [fillH, List.append_assoc, h1, h2, ehget] at ho
        by_cases hk : k = i
        · subst hk
          rw [Nat.beq_refl] at ho
          cases ho
          exact ⟨o, hi, fun Rd e w => h3 Rd e w k⟩
        · rw [beq_no hk] at ho
          exact valH_ok t rest hb k o' ho
      · cases h
    · cases h
  · cases h
structure PS where
 t : List (Nat × PV)
 h : List (Nat × PO)
 c : List Sc
def mkPS (n : Nat) (ps : PS) (x : Tup ps.c) : ESt := ⟨n, (fillT ps.t (splitT ps.c x)).1, fillH ps.h (fillT ps.t (splitT ps.c x)).2⟩
def pruneT (t0 : List (Nat × EV)) : List (Nat × PV) → List (Nat × EV)
 | [] => []
 | (i, _) :: t => (i, eget t0 i) :: pruneT t0 t
def canon (ps : PS) (E : ESt) : Option (Tup ps.c) :=
 match valT (nameH ps.h ps.h (nameT ps.h ps.t ⟨E.n, pruneT E.t ps.t, E.h⟩)).t ps.t with
 | some a => match valH (nameH ps.h ps.h (nameT ps.h ps.t ⟨E.n, pruneT E.t ps.t, E.h⟩)).h ps.h with
  | some b => joinT ps.c (a ++ b)
  | none => none
 | none => none
theorem pruneT_get (t0 : List (Nat × EV)) : ∀ (t : List (Nat × PV)) (i : Nat), eget (pruneT t0 t) i = eget t0 i ∨ eget (pruneT t0 t) i = .un
 | [], i => .inr rfl
 | (j, p) :: t, i => by
  simp only [pruneT, eget]
  by_cases h : i = j
  · subst h; rw [Nat.beq_refl]; exact .inl rfl
  · rw [beq_no h]; exact pruneT_get t0 t i
theorem moveS_n (i k p : Nat) (E : ESt) : (moveS i k p E).n = E.n := by
 unfold moveS
 have hc : ∀ (b : Bool) (x y : ESt), x.n = E.n → y.n = E.n → (cond b x y).n = E.n := fun b x y hx hy => by cases b <;> assumption
 have hsw : ∀ a b : Nat, (swapG a b E).n = E.n := fun a b => by unfold swapG; exact hc _ _ _ rfl rfl
 split
 · exact hc _ _ _ (hsw _ _) rfl
 · exact hsw _ _
theorem moveB_n (b j k p : Nat) (bt : TypeId) (cs : List EV) (E : ESt) : (moveB b j k p bt cs E).n = E.n := by
 unfold moveB
 have hc : ∀ (b : Bool) (x y : ESt), x.n = E.n → y.n = E.n → (cond b x y).n = E.n := fun b x y hx hy => by cases b <;> assumption
 have hsw : ∀ a b : Nat, (swapG a b E).n = E.n := fun a b => by unfold swapG; exact hc _ _ _ rfl rfl
 split
 · exact hc _ _ _ (hsw _ _) rfl
 · exact hsw _ _
theorem nameS_n (ph : List (Nat × PO)) (i : Nat) (pv : PV) (E : ESt) : (nameS ph i pv E).n = E.n := by
 unfold nameS
 have hc : ∀ (b : Bool) (x y : ESt), x.n = E.n → y.n = E.n → (cond b x y).n = E.n := fun b x y hx hy => by cases b <;> assumption
 have hsw : ∀ a b : Nat, (swapG a b E).n = E.n := fun a b => by unfold swapG; exact hc _ _ _ rfl rfl
 repeat' (first | rfl | exact hsw _ _ | exact hc _ _ _ rfl rfl | exact hc _ _ _ rfl (hsw _ _) | exact hc _ _ _ rfl (moveS_n _ _ _ _) | split)
theorem nameA_n (ph : List (Nat × PO)) (i j : Nat) (pv : PV) (E : ESt) : (nameA ph i j pv E).n = E.n := by
 unfold nameA
 have hc : ∀ (b : Bool) (x y : ESt), x.n = E.n → y.n = E.n → (cond b x y).n = E.n := fun b x y hx hy => by cases b <;> assumption
 have hsw : ∀ a b : Nat, (swapG a b E).n = E.n := fun a b => by unfold swapG; exact hc _ _ _ rfl rfl
 repeat' (first | rfl | exact hsw _ _ | exact hc _ _ _ rfl rfl | exact hc _ _ _ rfl (hsw _ _) | split)
theorem nameB_n (ph : List (Nat × PO)) (i j : Nat) (pv : PV) (E : ESt) : (nameB ph i j pv E).n = E.n := by
 unfold nameB
 have hc : ∀ (b : Bool) (x y : ESt), x.n = E.n → y.n = E.n → (cond b x y).n = E.n := fun b x y hx hy => by cases b <;> assumption
 have hsw : ∀ a b : Nat, (swapG a b E).n = E.n := fun a b => by unfold swapG; exact hc _ _ _ rfl rfl
 repeat' (first | rfl | exact hsw _ _ | exact hc _ _ _ rfl rfl | exact hc _ _ _ rfl (hsw _ _) | exact hc _ _ _ rfl (moveB_n _ _ _ _ _ _ _) | split)
theorem nilF_n (pv : PV) (c : EV) (E : ESt) : (nilF pv c E).n = E.n := by
 unfold nilF
 split
 · split
   · split
     · unfold freeP
       split
       · unfold swapG; cases (Nat.blt _ 4294967296 && Nat.blt _ 4294967296) <;> rfl
       · rfl
     · rfl
   · rfl
 · rfl
theorem nameAs_n (ph : List (Nat × PO)) (i : Nat) : ∀ (ps : List PV) (j : Nat) (E : ESt), (nameAs ph i j ps E).n = E.n
 | [], _, _ => rfl
 | p :: ps, j, E => by rw [nameAs, nameAs_n ph i ps, nameA_n, nilF_n]
theorem nameBs_n (ph : List (Nat × PO)) (i : Nat) : ∀ (ps : List PV) (j : Nat) (E : ESt), (nameBs ph i j ps E).n = E.n
 | [], _, _ => rfl
 | p :: ps, j, E => by rw [nameBs, nameBs_n ph i ps, nameB_n, nilF_n]
theorem swapC_n (k p : Nat) (E : ESt) : (cond (Nat.beq k p) E (swapG k p E)).n = E.n := by
 cases Nat.beq k p with
 | true => rfl
 | false =>
  show (swapG k p E).n = E.n
  unfold swapG
  cases (Nat.blt k 4294967296 && Nat.blt p 4294967296) <;> rfl
theorem nameC_n (i j : Nat) (pv : PV) (E : ESt) : (nameC i j pv E).n = E.n := by
 unfold nameC
 split
 · split
   · split
     · exact swapC_n _ _ E
     · rfl
   · split
     · exact swapC_n _ _ E
     · rfl
   · split
     · exact swapC_n _ _ E
     · rfl
   · rfl
 · rfl
theorem nameCs_n (i : Nat) : ∀ (ps : List PV) (j : Nat) (E : ESt), (nameCs i j ps E).n = E.n
 | [], _, _ => rfl
 | p :: ps, j, E => (nameCs_n i ps (j + 1) _).trans (nameC_n i j p E)
theorem nameT_n (ph : List (Nat × PO)) : ∀ (t : List (Nat × PV)) (E : ESt), (nameT ph t E).n = E.n
 | [], _ => rfl
 | (i, pv) :: t, E => by
  refine (nameT_n ph t _).trans ?_
  cases pv with
  | ag l => exact nameAs_n ph i _ 0 E
  | cl fn fs cs => exact nameCs_n i _ 0 E
  | _ => exact (nameS_n ph i _ _).trans (nilF_n _ _ E)
theorem nameH_n (ph : List (Nat × PO)) : ∀ (t : List (Nat × PO)) (E : ESt), (nameH ph t E).n = E.n
 | [], _ => rfl
 | (i, pv) :: t, E => by
  refine (nameH_n ph t _).trans ?_
  cases pv with
  | box _ l => exact nameBs_n ph i _ 0 E
  | nr t r ho =>
   cases ho with
   | none => rfl
   | some q =>
    obtain ⟨s, p⟩ := q
    show (nameN i p E).n = E.n
    unfold nameN
    split
    · rename_i j _
      cases Nat.beq j p with
      | true => rfl
      | false =>
       show (swapG j p E).n = E.n
       unfold swapG
       cases (Nat.blt j 4294967296 && Nat.blt p 4294967296) <;> rfl
    · rfl
  | _ => rfl
theorem canon_ok {P : Program} {ps : PS} {E : ESt} {x : Tup ps.c} (h : canon ps E = some x) : SLe P (encE E) (encE (mkPS E.n ps x)) := by
 unfold canon at h
 have h1 : SLe P (encE E) (encE ⟨E.n, pruneT E.t ps.t, E.h⟩) := by
  refine SLe.wk (fun i => ?_) fun k ob' hk => ⟨ob', hk, fun _ _ _ h => h⟩
  rw [tget_enc, tget_enc]
  rcases pruneT_get E.t ps.t i with h | h
  · rw [h]; exact Wk.refl _
  · rw [h]; exact Wk.un
 have h2 := h1.trans ((nameT_ok (P := P) ps.h ps.t _).trans (nameH_ok ps.h ps.h _))
 have hn : (nameH ps.h ps.h (nameT ps.h ps.t ⟨E.n, pruneT E.t ps.t, E.h⟩)).n = E.n := by rw [nameH_n, nameT_n]
 generalize nameH ps.h ps.h (nameT ps.h ps.t ⟨E.n, pruneT E.t ps.t, E.h⟩) = E' at h h2 hn
 split at h
 · rename_i a ha
   split at h
   · rename_i b hb
     have hj := joinT_ok h
     have ht := valT_ok ps.t b ha
     have hh := valH_ok ps.h [] hb
     rw [List.append_nil] at hh
     refine h2.trans ?_
     obtain ⟨n', t', h'⟩ := E'
     simp only at hn
     subst hn
     refine SLe.wk (fun i => ?_) fun k ob' hk => ?_
     · rw [tget_enc, tget_enc]
       simp only [mkPS, ← hj]
       exact ht.2 i
     · rw [hget_enc] at hk
       obtain ⟨o', ho', rfl⟩ := Option.map_eq_some_iff.1 hk
       simp only [mkPS, ← hj, ht.1] at ho'
       obtain ⟨o, h3, h4⟩ := hh k o' ho'
       exact ⟨encO o, by rw [hget_enc, h3]; rfl, h4⟩
   · cases h
 · cases h
def nrKey : EHp → Option Nat
 | [] => none
 | (k, o) :: h => match o with
  | some (.nr _ _ _ _) => some k
  | _ => nrKey h
def holePO : List (Nat × PO) → List (Nat × PO) → Option (Nat × TypeId)
 | _, [] => none
 | ph, (_, o) :: h => match o with
  | .nr _ _ (some (s, p)) => match pget ph p with
   | some (.arr t2 _ _) => some (s, t2)
   | _ => none
  | _ => holePO ph h
def openE (b : Nat) (t t2 : TypeId) (r : Sc) (xs : List (List r.Val)) (i : Int) (E : ESt) : ESt :=
 ⟨E.n, killT (5000000 + b) E.t, (b, some (.nr t r xs (some (i, some (5000000 + b))))) :: (5000000 + b, some (.arr t2 r [] true)) :: killH (5000000 + b) E.h⟩
def preP (ps : PS) (E : ESt) {R : Type} (k : ESt → Option R) : Option R :=
 match nrKey E.h with
 | none => k E
 | some b => match ehget E.h b with
  | some (.nr t r xs ho) => match holePO ps.h ps.h with
   | none => match ho with
    | some (i, some j) => match ehget E.h j with
     | some (.arr t2 r2 ys wr) => match castS (.sl r2) (.sl r) ys with
      | some zs => obind (nthI xs i) fun _ => cond (isNilL (show List r.Val from zs)) none (k ⟨E.n, E.t, (b, some (.nr t r (xs.set i.toNat zs) none)) :: (j, some (.arr t2 r2 ys false)) :: E.h⟩)
      | none => none
     | _ => none
    | _ => k E
   | some (s, t2) => match ho with
    | none => match eget E.t s with
     | .sc (.i _) i => cond (Nat.blt (5000000 + b) 4294967296) (obind (nthI xs i) fun x => cond (isNilL x) (k (openE b t t2 r xs i E)) none) none
     | _ => k E
    | _ => k E
  | _ => k E
theorem preP_ok {P : Program} {ps : PS} {E : ESt} {R : Type} {k : ESt → Option R} {r : R} (h : preP ps E k = some r) : ∃ E', SLe P (encE E) (encE E') ∧ E'.n = E.n ∧ k E' = some r := by
 unfold preP at h
 split at h
 · exact ⟨E, SLe.refl, rfl, h⟩
 · rename_i b _
   split at h
   · rename_i t rr xs ho hb
     have hb' := ehget_ok hb
     split at h
     · split at h
       · rename_i i j
         split at h
         · rename_i t2 r2 ys wr hj
           split at h
           · rename_i zs hz
             obtain ⟨e1, hzs⟩ := castS_ok hz
             cases e1
             have hzs : zs = ys := hzs
             subst hzs
             obtain ⟨x, hx, h⟩ := obind_some h
             obtain ⟨hi, hx⟩ := nthI_some hx
             rcases cond_some h with ⟨_, h⟩ | ⟨hn, h⟩
             · cases h
             refine ⟨_, ?_, by rfl, h⟩
             have hlt : i.toNat < xs.length := (List.getElem?_eq_some_iff.1 hx).1
             have := SLe.lendNr (P := P) (st := encE E) b i.toNat (k := j) hb' (by
              simp only [nrC, nrH]
              rw [List.getElem?_set_self (by simpa using hlt)]) (ehget_ok hj)
             refine this.trans (SLe.of_eq ?_)
             have e2 : (nrC rr xs (some (i, some j))).set i.toNat (.sl false rr.w (List.map (encC rr) zs)) = nrC rr (xs.set i.toNat zs) none := by
              simp only [nrC, List.set_set, List.map_set]
              congr 1
              cases zs with
              | nil => cases hn
              | cons y ys => rfl
             simp only [encE, encH, Option.map, encO, e2]
           · cases h
         · cases h
       · exact ⟨E, SLe.refl, rfl, h⟩
     · rename_i s t2 _
       split at h
       · split at h
         · rename_i kd i hs
           obtain ⟨hb0, h⟩ := cond_none h
           obtain ⟨x, hx, h⟩ := obind_some h
           obtain ⟨hi, hx⟩ := nthI_some hx
           obtain ⟨hc, h⟩ := cond_none h
           refine ⟨_, ?_, by rfl, h⟩
           have hx0 : x = [] := by cases x with
            | nil => rfl
            | cons y ys => cases hc
           subst hx0
           have hk0 : 5000000 + b < 4294967296 := Nat.le_of_ble_eq_true hb0
           have := SLe.ownNr (P := P) (st := encE E) b i.toNat (5000000 + b) hk0 t2 rr.w hb' (by
            simp only [nrC, List.getElem?_map, hx]; rfl) (by omega)
           refine this.trans (SLe.of_eq ?_)
           have e2 : ((nrC rr xs none).map (AV.kill (5000000 + b))).set i.toNat (.ow (5000000 + b)) = nrC rr xs (some (i, some (5000000 + b))) := by
            rw [← nrC_kill]; rfl
           simp only [openE, encE, encH, Option.map, encO, encT_kill, encH_kill, e2]
           rfl
         · exact ⟨E, SLe.refl, rfl, h⟩
       · exact ⟨E, SLe.refl, rfl, h⟩
   · exact ⟨E, SLe.refl, rfl, h⟩
def nrPO : List (Nat × PO) → Bool
 | [] => false
 | (_, o) :: h => match o with
  | .nr _ _ _ => true
  | _ => nrPO h
def arrP (ps : PS) (E : ESt) {R : Type} (k : ESt → Option R) : Option R := match nrKey E.h with
 | none => k E
 | some b => cond (nrPO ps.h) (k E) (match ehget E.h b with
  | some (.nr t r xs none) => k ⟨E.n, E.t, (b, some (.arr t (.sl r) xs true)) :: E.h⟩
  | _ => k E)
theorem arrP_ok {P : Program} {ps : PS} {E : ESt} {R : Type} {k : ESt → Option R} {r : R} (h : arrP ps E k = some r) : ∃ E', SLe P (encE E) (encE E') ∧ E'.n = E.n ∧ k E' = some r := by
 unfold arrP at h
 split at h
 · exact ⟨E, SLe.refl, rfl, h⟩
 · rename_i b _
   rcases cond_some h with ⟨_, h⟩ | ⟨_, h⟩
   · exact ⟨E, SLe.refl, rfl, h⟩
   split at h
   · rename_i t rr xs hb
     have hb' := ehget_ok hb
     refine ⟨_, ?_, by rfl, h⟩
     have s1 : SLe P (encE E) ⟨E.n, encT E.t, (b, some (.nr t (xs.map (nrA rr)))) :: encH E.h⟩ := SLe.same (fun _ => rfl) fun j => by
      by_cases hj : j = b
      · subst hj
        rw [hget_same]
        exact hb'.symm
      · rw [hget_other hj]
     refine s1.trans (SLe.wkOb fun Rd e w ho => ?_)
     refine (ho.ofNr (fun c hc => ?_) (fun c hc => ?_) true).wkRow (nrA_wk rr xs) (fun c hc => ?_)
     · obtain ⟨x, _, rfl⟩ := List.mem_map.1 hc
       cases x <;> rfl
     · obtain ⟨x, _, rfl⟩ := List.mem_map.1 hc
       cases x <;> rfl
     · exact enc_rows_one (.sl rr) xs c hc
   · exact ⟨E, SLe.refl, rfl, h⟩
def canonP (ps : PS) (E : ESt) {R : Type} (k : Tup ps.c → Option R) : Option R := preP ps E fun E' => arrP ps E' fun E' => obind (canon ps E') k
theorem canonP_ok {P : Program} {ps : PS} {E : ESt} {R : Type} {k : Tup ps.c → Option R} {r : R} (h : canonP ps E k = some r) : ∃ x, SLe P (encE E) (encE (mkPS E.n ps x)) ∧ k x = some r := by
 obtain ⟨E1, h0, h20, h30⟩ := preP_ok (P := P) h
 obtain ⟨E', h1, h2, h3⟩ := arrP_ok (P := P) h30
 obtain ⟨x, hx, hk⟩ := obind_some h3
 have := canon_ok (P := P) hx
 rw [h2, h20] at this
 exact ⟨x, h0.trans (h1.trans this), hk⟩
end
end
noncomputable section
open Go Go.RowKit
noncomputable section
def exitB : Exit → Exit → Bool
 | .normal, .normal => true
 | .ret, .ret => true
 | .exit i, .exit j => Nat.beq i j
 | _, _ => false
theorem exitB_ok {x y : Exit} (h : exitB x y = true) : x = y := by
 unfold exitB at h
 split at h
 · rfl
 · rfl
 · rw [Nat.eq_of_beq_eq_true h]
 · cases h
@[reducible] def OVal : List (Exit × PS) → Type
 | [] => Unit
 | [o] => Tup o.2.c
 | o :: p :: r => Sum (Tup o.2.c) (OVal (p :: r))
def oProj : (os : List (Exit × PS)) → Exit → ESt → Option (OVal os)
 | [], _, _ => none
 | [o], x, E => cond (exitB o.1 x) (canonP o.2 E some) none
 | o :: p :: r, x, E => cond (exitB o.1 x) (canonP o.2 E fun a => some (.inl a)) (match oProj (p :: r) x E with
  | some b => some (.inr b)
  | none => none)
def oElim (n : Nat) : (os : List (Exit × PS)) → OVal os → {R : Type} → (Exit → ESt → Option R) → Option R
 | [], _, _, _ => none
 | [o], v, _, k => k o.1 (mkPS n o.2 v)
 | o :: p :: r, v, _, k => match v with
  | .inl a => k o.1 (mkPS n o.2 a)
  | .inr b => oElim n (p :: r) b k
inductive Pl where
 | z
 | n (a b : Pl)
 | join (ins : PS) (outs : List (Exit × PS)) (p : Pl)
 | loop (ins : PS) (outs : List (Exit × PS)) (p : Pl)
def Pl.l : Pl → Pl
 | .n a _ => a
 | _ => .z
def Pl.r : Pl → Pl
 | .n _ b => b
 | _ => .z
abbrev ExT := Pl → ESt → (R : Type) → (Exit → ESt → Option R) → Option R
def joinF (f : ExT) (n : Nat) (ins : PS) (outs : List (Exit × PS)) (p : Pl) : Nat → Tup ins.c → Option (OVal outs)
 | 0, _ => none
 | _ + 1, v => f p (mkPS n ins v) _ (oProj outs)
def loopF (f : ExT) (n : Nat) (ins : PS) (outs : List (Exit × PS)) (p : Pl) : Nat → Tup ins.c → Option (OVal outs)
 | 0, _ => none
 | m + 1, v => f p (mkPS n ins v) _ fun x E => match x with
  | .normal => canonP ins E (loopF f n ins outs p m)
  | x => oProj outs x E
def loopX (N : Nat) (fa : ExT) : ExT := fun pl E _ k => match pl with
 | .loop ins outs p => canonP ins E fun v => obind (loopF fa E.n ins outs p N v) fun o => oElim E.n outs o k
 | _ => none
def wrapF (N : Nat) (f : ExT) : ExT := fun pl E _ k => match pl with
 | .join ins outs p => canonP ins E fun v => obind (joinF f E.n ins outs p N v) fun o => oElim E.n outs o k
 | pl => f pl E _ k
def rootL (i : Nat) : List Oper → Nat
 | [] => i
 | o :: l => match o.dst with
  | some d => cond (Nat.beq d i) (match o.op with
   | .move (.tmp j) => j
   | _ => i) (rootL i l)
  | none => rootL i l
def slicedL (l0 : List Oper) : List Oper → List Nat
 | [] => []
 | o :: l => match o.op with
  | .slice _ (.tmp i) _ _ _ => rootL i l0 :: slicedL l0 l
  | _ => slicedL l0 l
def dupL : List Nat → List Nat
 | [] => []
 | i :: l => cond (l.any (Nat.beq i)) (i :: dupL l) (dupL l)
def preS : List Nat → ESt → ESt
 | [], E => E
 | i :: l, E => preS l (nameS [] i (.h .u) E)
def preE (l : List Oper) (E : ESt) : ESt := preS (dupL (slicedL l l)) E
section
variable {P : Program}
theorem preS_ok : ∀ (l : List Nat) (E : ESt), SLe P (encE E) (encE (preS l E)) ∧ (preS l E).n = E.n
 | [], E => ⟨SLe.refl, rfl⟩
 | i :: l, E => ⟨SLe.trans (nameS_ok [] i _ E) (preS_ok l _).1, (preS_ok l _).2.trans (nameS_n [] i _ E)⟩
end
def nrf : Code → Bool
 | .seq a b => nrf a && nrf b
 | .cond _ a b => nrf a && nrf b
 | .block _ a => nrf a
 | .loop a => nrf a
 | .scope a => nrf a
 | .rangeFunc _ _ _ _ => false
 | _ => true
def tputsE : List Tmp → List EV → List (Nat × EV) → List (Nat × EV)
 | p :: ps, c :: cs, t => tputsE ps cs ((p, c) :: t)
 | _, _, t => t
theorem encT_tputs : ∀ (ps : List Tmp) (cs : List EV) (t : List (Nat × EV)), encT (tputsE ps cs t) = tputs ps (encL cs) (encT t)
 | [], cs, t => by cases cs <;> rfl
 | p :: ps, [], t => rfl
 | p :: ps, c :: cs, t => by simp only [tputsE, encL, tputs, encT_tputs ps cs]; rfl
def dropE (l : List Nat) : List (Nat × EV) → List (Nat × EV)
 | [] => []
 | (i, c) :: t => (i, cond (l.any (Nat.beq i)) .un c) :: dropE l t
theorem encT_drop (l : List Nat) : ∀ t : List (Nat × EV), encT (dropE l t) = dropT l (encT t)
 | [] => rfl
 | (i, c) :: t => by
  simp only [dropE, encT, dropT, encT_drop l t]
  congr 2
  by_cases h : i ∈ l
  · have : l.any (Nat.beq i) = true := List.any_eq_true.2 ⟨i, h, Nat.beq_refl i⟩
    rw [this, if_pos h]; rfl
  · have : l.any (Nat.beq i) = false := by
     rw [List.any_eq_false]
     intro x hx hb
     exact h (Nat.eq_of_beq_eq_true hb ▸ hx)
    rw [this, if_neg h]; rfl
def noLentE : EOb → Bool
 | .arr _ _ _ wr => wr
 | _ => true
def hfil : EHp → EHp
 | [] => []
 | (k, o) :: h => (k, match o with
  | some o => cond (noLentE o) (some o) none
  | none => none) :: hfil h
theorem hfil_get : ∀ (h : EHp) (k : Nat), (ehget (hfil h) k = ehget h k ∨ ehget (hfil h) k = none) ∧ ∀ o, ehget (hfil h) k = some o → noLentE o = true
 | [], k => ⟨.inl rfl, fun o h => by cases h⟩
 | (j, o) :: h, k => by
  simp only [hfil, ehget]
  cases hj : Nat.beq k j with
  | true =>
   simp only [cond_true]
   cases o with
   | none => exact ⟨.inl rfl, fun o h => by cases h⟩
   | some o =>
    cases hl : noLentE o with
    | true => simp only [hl, cond_true]; exact ⟨.inl trivial, fun o' h => by cases h; exact hl⟩
    | false => simp only [hl, cond_false]; exact ⟨.inr trivial, fun o' h => by cases h⟩
  | false => simp only [cond_false]; exact hfil_get h k
theorem hfil_noLent (h : EHp) : hNoLent (encH (hfil h)) := fun k ob hk => by
 rw [hget_enc] at hk
 obtain ⟨o, ho, rfl⟩ := Option.map_eq_some_iff.1 hk
 have := (hfil_get h k).2 o ho
 cases o <;> first | rfl | exact this
theorem bwI_len {α : Type} (xs : List α) : (bwI xs).length = xs.length := by simp [bwI]
def rfF (fa fb : ExT) (n : Nat) (ins : PS) (outs : List (Exit × PS)) (p : Pl) (ps : List Tmp) (wr : List Nat) : List (Int × (Int × Int)) → Tup ins.c → Option (OVal outs)
 | [], v => oProj outs .normal (mkPS n ins v)
 | q :: l, v => fa p.l ⟨n, tputsE ps (itemE q) (mkPS n ins v).t, (mkPS n ins v).h⟩ _ fun x E => match x with
  | .normal => fb p.r E _ fun x E' => match x with
   | .normal => canonP ins ⟨E'.n, dropE wr E'.t, E'.h⟩ (rfF fa fb n ins outs p ps wr l)
   | _ => none
  | _ => none
def frzE (E : ESt) (i : Nat) {R : Type} (k : Nat → EV → ESt → Option R) : Option R := match eget E.t i with
 | .cl (.func gf) [] [.fp [c]] => k gf c E
 | .cl (.func gf) [] [.pt j 0] => match ehget E.h j with
  | some (.box bt [c]) => cond (!(Nat.beq bt itT)) (k gf c ⟨E.n, (i, .cl (.func gf) [] [.fp [c]]) :: E.t, (j, none) :: E.h⟩) none
  | _ => none
 | _ => none
def rangeX (g : Operand) (ps : Array Tmp) (ca cb : Code) (fa fb : ExT) : ExT := fun pl E _ k => match pl with
 | .loop ins outs p => match g with
  | .tmp i => frzE E i fun gf c E => obind (asS (.sl hdR) c) fun xs =>
   cond (bwTab.any (Nat.beq gf) && nrf ca && nrf cb && Nat.beq ps.toList.length 2 && ps.toList.all (fun q => Nat.blt q E.n))
    (canonP ins ⟨E.n, E.t, hfil E.h⟩ fun v => obind (rfF fa fb E.n ins outs p ps.toList (wrL ca ++ wrL cb ++ ps.toList) (bwI xs) v) fun o => oElim E.n outs o k) none
  | _ => none
 | _ => none
section
variable (T : TypeId → TInfo) (CT : List Ctr) (N : Nat)
def exC (c : Code) : ExT :=
 Code.rec (motive := fun _ => ExT)
  (fun _ E _ k => k .normal E)
  (fun _ ops draw => wrapF N fun _ E _ k => cond draw (exD T CT ops.toList (preE ops.toList E) ops.toList [] (k .normal)) (exL T CT ops.toList ops.toList E (k .normal)))
  (fun _ _ fa fb => wrapF N fun pl E _ k => fa pl.l E _ fun x E' => match x with
   | .normal => fb pl.r E' _ k
   | x => k x E')
  (fun c _ _ fa fb => wrapF N fun pl E _ k => match evx (eget E.t) c with
   | .sc .b b => match c with
    | .tmp i => cond b (fa pl.l ⟨E.n, (i, .sc .b true) :: E.t, E.h⟩ _ k) (fb pl.r ⟨E.n, (i, .sc .b false) :: E.t, E.h⟩ _ k)
    | _ => cond b (fa pl.l E _ k) (fb pl.r E _ k)
   | _ => none)
  (fun id _ fa => wrapF N fun pl E _ k => fa pl.l E _ fun x E' => match x with
   | .exit i => cond (Nat.beq i id) (k .normal E') (k (.exit i) E')
   | x => k x E')
  (fun _ fa => loopX N fa)
  (fun g ps ca cb fa fb => rangeX g ps ca cb fa fb)
  (fun id _ E _ k => k (.exit id) E)
  (fun _ fa => fun pl E _ k => fa pl.l E _ fun x E' => match x with
   | .goto _ => none
   | x => k x E')
  (fun _ => fun _ E _ k => k .normal E)
  (fun _ => fun _ _ _ _ => none)
  (fun _ E _ k => k .ret E)
  (fun _ => fun _ _ _ _ => none)
  c
end
section
variable {P : Program} {T : TypeId → TInfo} {CT : List Ctr} {N : Nat}
def ExOk (t : Bool) (P : Program) (c : Code) (f : ExT) : Prop := ∀ (pl : Pl) (E : ESt) (R : Type) (k : Exit → ESt → Option R) (r : R), f pl E R k = some r → AC t P c (encE E) fun x s => ∃ E', s = encE E' ∧ E'.n = E.n ∧ k x E' = some r
theorem oElim_some {n : Nat} : ∀ {os : List (Exit × PS)} {o : OVal os} {R : Type} {k : Exit → ESt → Option R} {r : R}, oElim n os o k = some r → ∀ {x : Exit} {E : ESt}, oProj os x E = some o → E.n = n → ∃ E2, SLe P (encE E) (encE E2) ∧ E2.n = n ∧ k x E2 = some r
 | [], o, R, k, r, h, x, E, hp, hn => by cases hp
 | [o1], o, R, k, r, h, x, E, hp, hn => by
  simp only [oProj] at hp
  obtain ⟨h1, h2⟩ := cond_none hp
  have := exitB_ok h1
  subst this
  obtain ⟨y, this, hy⟩ := canonP_ok (P := P) h2
  cases hy
  rw [hn] at this
  exact ⟨_, this, rfl, h⟩
 | o1 :: p :: rr, o, R, k, r, h, x, E, hp, hn => by
  simp only [oProj] at hp
  rcases cond_some hp with ⟨h1, h2⟩ | ⟨h1, h2⟩
  · have := exitB_ok h1
    subst this
    obtain ⟨y, this, hy⟩ := canonP_ok (P := P) h2
    cases hy
    rw [hn] at this
    exact ⟨_, this, rfl, h⟩
  · split at h2
    · rename_i b hb
      cases h2
      exact oElim_some (os := p :: rr) h hb hn
    · cases h2
theorem ExOk.out {t : Bool} {c : Code} {E0 E : ESt} {outs : List (Exit × PS)} {o : OVal outs} {R : Type} {k : Exit → ESt → Option R} {r : R} (h : AC t P c (encE E) fun x s => ∃ E', s = encE E' ∧ E'.n = E.n ∧ oProj outs x E' = some o) (hk : oElim E.n outs o k = some r) :
 AC t P c (encE E) fun x s => ∃ E', SLe P s (encE E') ∧ E'.n = E.n ∧ k x E' = some r := by
 refine h.mono fun x s => ?_
 rintro ⟨E', rfl, hn, hp⟩
 exact oElim_some hk hp hn
theorem AC.leK {t : Bool} {c : Code} {st : St} {Post : Exit → St → Prop} (h : AC t P c st fun x s => ∃ s', SLe P s s' ∧ Post x s') : AC t P c st Post := by
 intro r w0 Rd0 e a w Q hr hg hn
 refine h r w0 Rd0 e a w Q hr hg fun x s hs w1 Rd1 hb e' a' w' hg' hk => ?_
 obtain ⟨s', hle, hp⟩ := hs
 obtain ⟨e2, hg2⟩ := hle w1 Rd1 e' a' w' hg'
 exact hn x s' hp w1 Rd1 hb e2 a' w' hg2 hk
theorem wrapF_ok {t : Bool} {c : Code} {f : ExT} (hf : ExOk t P c f) : ExOk t P c (wrapF N f) := by
 intro pl E R k r h
 unfold wrapF at h
 split at h
 · rename_i ins outs p
   obtain ⟨v, hc, h1⟩ := canonP_ok (P := P) h
   obtain ⟨o, ho, h2⟩ := obind_some h1
   cases N with
   | zero => cases ho
   | succ M =>
    have := hf p (mkPS E.n ins v) _ _ _ ho
    have h3 := ExOk.out (E := mkPS E.n ins v) (E0 := E) (k := k) (r := r) this h2
    refine AC.le hc (AC.leK (h3.mono fun x s => ?_))
    rintro ⟨E', hle, hn, hk⟩
    exact ⟨_, hle, E', rfl, hn, hk⟩
 · exact hf _ E R k r h
theorem loopF_ok {t : Bool} {c : Code} {f : ExT} (hf : ExOk t P c f) (n : Nat) (ins : PS) (outs : List (Exit × PS)) (p : Pl) (o : OVal outs) (m : Nat) (v : Tup ins.c) (h : loopF f n ins outs p m v = some o) :
 AC t P (.loop c) (encE (mkPS n ins v)) fun x s => ∃ E', s = encE E' ∧ E'.n = n ∧ oProj outs x E' = some o := by
 refine AC.loop (α := {q : Nat × Tup ins.c // loopF f n ins outs p q.1 q.2 = some o}) (fun q => encE (mkPS n ins q.1.2)) (fun q => q.1.1) ⟨(m, v), h⟩ SLe.refl ?_
 rintro ⟨⟨m, v⟩, h⟩
 cases m with
 | zero => cases h
 | succ m =>
  simp only [loopF] at h
  have := hf p (mkPS n ins v) _ _ _ h
  refine AC.mono this fun x s => ?_
  rintro ⟨E', rfl, hn, hk⟩
  cases x with
  | normal =>
   obtain ⟨v', hc, h2⟩ := canonP_ok (P := P) hk
   rw [hn] at hc
   exact ⟨⟨(m, v'), h2⟩, hc, Nat.lt_succ_self m⟩
  | exit i => exact ⟨E', rfl, hn, hk⟩
  | goto l => exact ⟨E', rfl, hn, hk⟩
  | ret => exact ⟨E', rfl, hn, hk⟩
  | panic ch => exact ⟨E', rfl, hn, hk⟩
  | outgrown => exact ⟨E', rfl, hn, hk⟩
theorem exL_nn {ops : List Oper} : ∀ {l : List Oper} {E : ESt} {n : Nat} {R : Type} {k : ESt → Option R}, E.n = n → exL T CT ops l E (fun E' => cond (Nat.beq E'.n n) (k E') none) = exL T CT ops l E k
 | [], E, n, R, k, hn => by simp only [exL, hn, Nat.beq_refl, cond_true]
 | o :: l, E, n, R, k, hn => by
  subst hn
  have step : ∀ (E1 : ESt), E1.n = E.n → exStep T CT o E1 (fun E' => exL T CT ops l E' fun E' => cond (Nat.beq E'.n E.n) (k E') none) = exStep T CT o E1 (fun E' => exL T CT ops l E' k) := by
   intro E1 h1
   unfold exStep exIt
   have e := fun (t : List (Nat × EV)) (h : EHp) => exL_nn (ops := ops) (l := l) (k := k) (E := ⟨E1.n, t, h⟩) h1
   split
   · split
     · split
       · split <;> simp only [e]
       · rfl
     · split <;> simp only [e]
     · split <;> simp only [e]
   split <;> simp only [e]
  have skip : ∀ (E1 : ESt), E1.n = E.n → (exL T CT ops l (skipE o.dst E1) fun E' => cond (Nat.beq E'.n E.n) (k E') none) = exL T CT ops l (skipE o.dst E1) k := fun E1 h1 => exL_nn (E := skipE o.dst E1) h1
  simp only [exL, exG]
  split
  · exact step E rfl
  · split
    · split
      · rename_i s _ _ c _
        rw [step ⟨E.n, (s, .sc .b true) :: E.t, E.h⟩ rfl, step ⟨E.n, (s, .sc .b false) :: E.t, E.h⟩ rfl, skip ⟨E.n, (s, .sc .b true) :: E.t, E.h⟩ rfl, skip ⟨E.n, (s, .sc .b false) :: E.t, E.h⟩ rfl]
      · rw [skip E rfl]
      · rfl
    · rfl
theorem exL_n {ops l : List Oper} {E : ESt} {R : Type} {k : ESt → Option R} {r : R} (h : exL T CT ops l E k = some r) : exL T CT ops l E (fun E' => cond (Nat.beq E'.n E.n) (k E') none) = some r := by rw [exL_nn rfl]; exact h
theorem exD_nn {l : List Oper} {E : ESt} : ∀ {rest : List Oper} {done : List EEn} {R : Type} {k : ESt → Option R}, exD T CT l E rest done (fun E' => cond (Nat.beq E'.n E.n) (k E') none) = exD T CT l E rest done k
 | [], done, R, k => by simp only [exD, Nat.beq_refl, cond_true]
 | o :: rest, done, R, k => by
  simp only [exD, exD_nn (rest := rest)]
theorem exD_n {l rest : List Oper} {E : ESt} {done : List EEn} {R : Type} {k : ESt → Option R} {r : R} (h : exD T CT l E rest done k = some r) : exD T CT l E rest done (fun E' => cond (Nat.beq E'.n E.n) (k E') none) = some r := by rw [exD_nn]; exact h
theorem frzE_ok {E : ESt} {i : Nat} {R : Type} {k : Nat → EV → ESt → Option R} {r : R} (h : frzE E i k = some r) (hk : ∀ gf c E', k gf c E' = some r → (enc c).fz = true) :
 ∃ gf c E', SLe P (encE E) (encE E') ∧ E'.n = E.n ∧ eget E'.t i = .cl (.func gf) [] [.fp [c]] ∧ k gf c E' = some r := by
 unfold frzE at h
 split at h
 · rename_i gf c hi
   exact ⟨gf, c, E, SLe.refl, rfl, hi, h⟩
 · rename_i gf j hi
   split at h
   · rename_i bt c hj
     obtain ⟨h1, h2⟩ := cond_none h
     refine ⟨gf, c, ⟨E.n, (i, .cl (.func gf) [] [.fp [c]]) :: E.t, (j, none) :: E.h⟩, ?_, rfl, ?_, h2⟩
     · exact SLe.freeze (i := i) (k := j) (bt := bt) (c := enc c) (by rw [tget_enc, hi]; rfl) (by rw [hget_enc, hj]; rfl) (ne_itT h1) (hk _ _ _ h2)
     · simp only [eget, Nat.beq_refl, cond_true]
   · cases h
 · cases h
theorem itemE_len (q : Int × hdR.Val) : (encL (itemE q)).length = 2 := rfl
theorem rfF_ok {ca cb : Code} {fa fb : ExT} (hfa : ExOk false P ca fa) (hfb : ExOk false P cb fb) {gf : Nat} (hbw : BwOk P gf) {g : Operand} {ps : Array Tmp} {E : ESt} {c : EV} {xs : List hdR.Val} (hg : evx (eget E.t) g = .cl (.func gf) [] [.fp [c]]) (hc : asS (.sl hdR) c = some xs)
 (hnl : hNoLent (encH E.h)) (hps : ps.toList.length = 2) (hpn : ∀ q ∈ ps.toList, q < E.n) (ins : PS) (outs : List (Exit × PS)) (p : Pl) (o : OVal outs) (v : Tup ins.c) (hle : SLe P (encE E) (encE (mkPS E.n ins v)))
 (h : rfF fa fb E.n ins outs p ps.toList (wrL ca ++ wrL cb ++ ps.toList) (bwI xs) v = some o) : AC true P (.rangeFunc g ps ca cb) (encE E) fun x s => ∃ E', s = encE E' ∧ E'.n = E.n ∧ oProj outs x E' = some o := by
 have hgv : (encE E).ev g = .cl (.func gf) [] [.fp [enc c]] := by
  rcases (Sk.enc E).x g with h1 | h1
  · rw [hg] at h1; cases h1
  · rw [h1, hg]; rfl
 refine AC.range hgv hbw.en hnl ((bwI xs).map fun q => encL (itemE q)) (fun j s => ∃ v, s = encE (mkPS E.n ins v) ∧ rfF fa fb E.n ins outs p ps.toList (wrL ca ++ wrL cb ++ ps.toList) ((bwI xs).drop j) v = some o)
  (fun Rd us hgt hl => ?_) (by simp [AV.fz]) (fun it hit => ?_) hpn ⟨_, ⟨v, rfl, h⟩, hle⟩ ?_ ?_
 · obtain ⟨es, h1, h2, h3⟩ := hbw.y Rd us xs hgt ((WkL.cons (Wk.fp (WkL.cons (asS_ok hc) .nil)) .nil).lr hl)
   refine ⟨es, by rw [List.length_map, bwI_len]; exact h1, fun j it x hi hx => ?_, h3⟩
   rw [List.getElem?_map] at hi
   obtain ⟨q, hq, rfl⟩ := Option.map_eq_some_iff.1 hi
   exact h2 j q x hq hx
 · obtain ⟨q, _, rfl⟩ := List.mem_map.1 hit
   rw [itemE_len, ← hps, Array.length_toList]
 · rintro j it s0 hit ⟨v, rfl, hv⟩
   rw [List.getElem?_map] at hit
   obtain ⟨q, hq, rfl⟩ := Option.map_eq_some_iff.1 hit
   have hd : (bwI xs).drop j = q :: (bwI xs).drop (j + 1) := by
    have hj := (List.getElem?_eq_some_iff.1 hq)
    obtain ⟨hj, rfl⟩ := hj
    exact List.drop_eq_getElem_cons hj
   rw [hd] at hv
   simp only [rfF] at hv
   have h1 := hfa p.l ⟨E.n, tputsE ps.toList (itemE q) (mkPS E.n ins v).t, (mkPS E.n ins v).h⟩ _ _ _ hv
   have e1 : encE ⟨E.n, tputsE ps.toList (itemE q) (mkPS E.n ins v).t, (mkPS E.n ins v).h⟩ = ⟨(encE E).n, tputs ps.toList (encL (itemE q)) (encE (mkPS E.n ins v)).t, (encE (mkPS E.n ins v)).h⟩ := by
    simp only [encE, encT_tputs]
   rw [e1] at h1
   refine h1.mono fun x s => ?_
   rintro ⟨E1, rfl, hn1, hk⟩
   have hn1 : E1.n = E.n := hn1
   cases x with
   | normal =>
    refine ⟨rfl, hn1, (hfb p.r E1 _ _ _ hk).mono fun x s => ?_⟩
    rintro ⟨E2, rfl, hn2, hk⟩
    cases x with
    | normal =>
     obtain ⟨v', hc', h2⟩ := canonP_ok (P := P) hk
     refine ⟨rfl, hn2.trans hn1, _, ⟨v', rfl, h2⟩, ?_⟩
     have e2 : encE ⟨E2.n, dropE (wrL ca ++ wrL cb ++ ps.toList) E2.t, E2.h⟩ = ⟨(encE E2).n, dropT (wrL ca ++ wrL cb ++ ps.toList) (encE E2).t, (encE E2).h⟩ := by
      simp only [encE, encT_drop]
     rw [e2] at hc'
     have e3 : E2.n = E.n := hn2.trans hn1
     rw [e3] at hc'
     exact hc'
    | _ => cases hk
   | _ => cases hk
 · rintro s ⟨v, rfl, hv⟩
   rw [List.length_map, List.drop_length] at hv
   exact ⟨_, rfl, rfl, hv⟩
theorem exC_ok (hp : Place P T CT) (c : Code) : ∀ t, (t = false → nrf c = true) → ExOk t P c (exC T CT N c) := by
 induction c with
 | skip =>
  intro t _ pl E R k r h
  exact AC.skip ⟨E, rfl, rfl, h⟩
 | region id ops draw =>
  intro t _
  refine wrapF_ok (f := fun _ E _ k => cond draw (exD T CT ops.toList (preE ops.toList E) ops.toList [] (k .normal)) (exL T CT ops.toList ops.toList E (k .normal))) ?_
  intro pl E R k r h
  have hops : ops = ops.toList.toArray := by simp
  cases draw with
  | true =>
   have := exD_region (t := t) hp (id := id) (k := fun E' => cond (Nat.beq E'.n (preE ops.toList E).n) (k .normal E') none) (l := ops.toList) (E := preE ops.toList E) (r := r) (by
    exact exD_n h)
   rw [hops]
   refine AC.le (preS_ok (P := P) (dupL (slicedL ops.toList ops.toList)) E).1 ?_
   rw [show (preE ops.toList E).n = E.n from (preS_ok (P := P) (dupL (slicedL ops.toList ops.toList)) E).2] at this
   refine this.mono fun x s => ?_
   rintro ⟨rfl, E', rfl, hk⟩
   obtain ⟨h1, h2⟩ := cond_none hk
   exact ⟨E', rfl, Nat.eq_of_beq_eq_true h1, h2⟩
  | false =>
   have := exL_region (t := t) hp (id := id) (k := fun E' => cond (Nat.beq E'.n E.n) (k .normal E') none) (l := ops.toList) (E := E) (r := r) (exL_n h)
   rw [hops]
   refine this.mono fun x s => ?_
   rintro ⟨rfl, E', rfl, hk⟩
   obtain ⟨h1, h2⟩ := cond_none hk
   exact ⟨E', rfl, Nat.eq_of_beq_eq_true h1, h2⟩
 | seq a b iha ihb =>
  intro t ht
  have iha := iha t fun e => by (have := ht e; simp only [nrf, Bool.and_eq_true] at this; exact this.1)
  have ihb := ihb t fun e => by (have := ht e; simp only [nrf, Bool.and_eq_true] at this; exact this.2)
  clear ht
  refine wrapF_ok (f := fun pl E _ k => exC T CT N a pl.l E _ fun x E' => match x with
   | .normal => exC T CT N b pl.r E' _ k
   | x => k x E') ?_
  intro pl E R k r h
  refine AC.seq ((iha pl.l E R _ r h).mono fun x s => ?_)
  rintro ⟨E', rfl, hn, hk⟩
  cases x with
  | normal =>
   refine (ihb pl.r E' R k r hk).mono fun x s => ?_
   rintro ⟨E2, rfl, hn2, hk2⟩
   exact ⟨E2, rfl, hn2.trans hn, hk2⟩
  | exit i => exact ⟨E', rfl, hn, hk⟩
  | goto l => exact ⟨E', rfl, hn, hk⟩
  | ret => exact ⟨E', rfl, hn, hk⟩
  | panic ch => exact ⟨E', rfl, hn, hk⟩
  | outgrown => exact ⟨E', rfl, hn, hk⟩
 | cond c a b iha ihb =>
  intro t ht
  have iha := iha t fun e => by (have := ht e; simp only [nrf, Bool.and_eq_true] at this; exact this.1)
  have ihb := ihb t fun e => by (have := ht e; simp only [nrf, Bool.and_eq_true] at this; exact this.2)
  clear ht
  refine wrapF_ok (f := fun pl E _ k => match evx (eget E.t) c with
   | .sc .b bb => match c with
    | .tmp i => cond bb (exC T CT N a pl.l ⟨E.n, (i, .sc .b true) :: E.t, E.h⟩ _ k) (exC T CT N b pl.r ⟨E.n, (i, .sc .b false) :: E.t, E.h⟩ _ k)
    | _ => cond bb (exC T CT N a pl.l E _ k) (exC T CT N b pl.r E _ k)
   | _ => none) ?_
  intro pl E R k r h
  simp only at h
  split at h
  · rename_i bb hc
    have hev := (Sk.enc E).is hc (by intro e; cases e)
    split at h
    · rename_i i
      rcases cond_some h with ⟨hb, h1⟩ | ⟨hb, h1⟩
      · subst hb
        exact AC.condT hev (AC.le (SLe.slotE (P := P) hc) (iha pl.l _ R k r h1))
      · subst hb
        exact AC.condF hev (AC.le (SLe.slotE (P := P) hc) (ihb pl.r _ R k r h1))
    · rcases cond_some h with ⟨hb, h1⟩ | ⟨hb, h1⟩
      · subst hb
        exact AC.condT hev (iha pl.l _ R k r h1)
      · subst hb
        exact AC.condF hev (ihb pl.r _ R k r h1)
  · cases h
 | block id a iha =>
  intro t ht
  have iha := iha t ht
  refine wrapF_ok (f := fun pl E _ k => exC T CT N a pl.l E _ fun x E' => match x with
   | .exit i => cond (Nat.beq i id) (k .normal E') (k (.exit i) E')
   | x => k x E') ?_
  intro pl E R k r h
  refine AC.block ((iha pl.l E R _ r h).mono fun x s => ?_)
  rintro ⟨E', rfl, hn, hk⟩
  cases x with
  | exit i =>
   simp only [PBlock]
   rcases cond_some hk with ⟨h1, h2⟩ | ⟨h1, h2⟩
   · rw [if_pos (Nat.eq_of_beq_eq_true h1)]
     exact ⟨E', rfl, hn, h2⟩
   · rw [if_neg (fun e => by rw [e, Nat.beq_refl] at h1; cases h1)]
     exact ⟨E', rfl, hn, h2⟩
  | normal => exact ⟨E', rfl, hn, hk⟩
  | goto l => exact ⟨E', rfl, hn, hk⟩
  | ret => exact ⟨E', rfl, hn, hk⟩
  | panic ch => exact ⟨E', rfl, hn, hk⟩
  | outgrown => exact ⟨E', rfl, hn, hk⟩
 | loop a iha =>
  intro t ht
  have iha := iha t ht
  intro pl E R k r h
  change loopX N (exC T CT N a) pl E R k = some r at h
  unfold loopX at h
  split at h
  · rename_i ins outs p
    obtain ⟨v, hc, h1⟩ := canonP_ok (P := P) h
    obtain ⟨o, ho, h2⟩ := obind_some h1
    have := loopF_ok iha E.n ins outs p o N v ho
    have h3 := ExOk.out (E := mkPS E.n ins v) (E0 := E) (k := k) (r := r) this h2
    refine AC.le hc (AC.leK (h3.mono fun x s => ?_))
    rintro ⟨E', hle, hn, hk⟩
    exact ⟨_, hle, E', rfl, hn, hk⟩
  · cases h
 | exit id =>
  intro t _ pl E R k r h
  exact AC.exit ⟨E, rfl, rfl, h⟩
 | scope a iha =>
  intro t ht
  have iha := iha t ht
  intro pl E R k r h
  refine AC.scope ((iha pl.l E R _ r h).mono fun x s => ?_)
  rintro ⟨E', rfl, hn, hk⟩
  cases x with
  | goto l => cases hk
  | exit i => exact ⟨fun l e => (by cases e), E', rfl, hn, hk⟩
  | normal => exact ⟨fun l e => (by cases e), E', rfl, hn, hk⟩
  | ret => exact ⟨fun l e => (by cases e), E', rfl, hn, hk⟩
  | panic ch => exact ⟨fun l e => (by cases e), E', rfl, hn, hk⟩
  | outgrown => exact ⟨fun l e => (by cases e), E', rfl, hn, hk⟩
 | label l =>
  intro t _ pl E R k r h
  exact AC.label ⟨E, rfl, rfl, h⟩
 | ret =>
  intro t _ pl E R k r h
  exact AC.ret ⟨E, rfl, rfl, h⟩
 | rangeFunc g ps ca cb iha ihb =>
  intro t ht pl E R k r h
  have htt : t = true := by
   cases t with
   | true => rfl
   | false => have := ht rfl; cases this
  subst htt
  change rangeX g ps ca cb (exC T CT N ca) (exC T CT N cb) pl E R k = some r at h
  unfold rangeX at h
  split at h
  · rename_i ins outs p
    split at h
    · rename_i i
      obtain ⟨gf, c, E1, hfz, hn1, hg, h⟩ := frzE_ok (P := P) h fun gf c E' h => by
       obtain ⟨xs, hc, _⟩ := obind_some h
       exact fz_asS hc
      obtain ⟨xs, hc, h⟩ := obind_some h
      obtain ⟨h1, h⟩ := cond_none h
      simp only [Bool.and_eq_true, List.any_eq_true, List.all_eq_true] at h1
      obtain ⟨⟨⟨⟨⟨q, hq1, hq2⟩, n1⟩, n2⟩, hl⟩, hpn⟩ := h1
      have hq2 := Nat.eq_of_beq_eq_true hq2
      subst hq2
      obtain ⟨v, hle, h⟩ := canonP_ok (P := P) h
      obtain ⟨o, ho, hk⟩ := obind_some h
      have hw : SLe P (encE E1) (encE ⟨E1.n, E1.t, hfil E1.h⟩) := SLe.weak (fun _ => .inl rfl) fun k => by
       rw [hget_enc, hget_enc]
       rcases (hfil_get E1.h k).1 with h | h
       · rw [h]; exact .inl rfl
       · rw [h]; exact .inr rfl
      have h2 := rfF_ok (g := .tmp i) (E := ⟨E1.n, E1.t, hfil E1.h⟩) (iha false fun _ => n1) (ihb false fun _ => n2) (hp.b _ hq1) hg hc (hfil_noLent E1.h) (Nat.eq_of_beq_eq_true hl) (fun q hq => Nat.le_of_ble_eq_true (hpn q hq)) ins outs p o v hle ho
      have h3 := ExOk.out (E := ⟨E1.n, E1.t, hfil E1.h⟩) (E0 := E1) (k := k) (r := r) h2 hk
      refine AC.le (hfz.trans hw) (AC.leK (h3.mono fun x s => ?_))
      rintro ⟨E', hle, hn, hk⟩
      exact ⟨_, hle, E', rfl, hn.trans hn1, hk⟩
    · cases h
  · cases h
 | _ =>
  intro t _ pl E R k r h
  cases h
end
end
end
noncomputable section
open Go Go.RowKit
noncomputable section
def entE : Nat → List EV → List (Nat × EV)
 | _, [] => []
 | i, c :: cs => (i, c) :: entE (i + 1) cs
theorem encT_ent : ∀ (cs : List EV) (i : Nat), encT (entE i cs) = entT i (encL cs)
 | [], _ => rfl
 | c :: cs, i => by simp only [entE, encT, encL, entT, encT_ent cs (i + 1)]
def finF (ps : PS) (x : Exit) (E : ESt) : Option (Tup ps.c) := match x with
 | .normal => canonP ps E some
 | .ret => canonP ps E some
 | _ => none
def exF (T : TypeId → TInfo) (CT : Nat → List Ctr) (N : Nat) (c : Code) (n : Nat) (pl : Pl) (ps : List PV) (hs : List (Nat × PO)) (cs : List Sc) (rs : PS) (x : Tup cs) : Option (Tup rs.c) :=
 Nat.rec (motive := fun _ => Option (Tup rs.c)) none (fun M _ => exC T (CT M) M c pl ⟨n, entE 0 (fillPs ps (splitT cs x)).1, fillH hs (fillPs ps (splitT cs x)).2⟩ _ (finF rs)) N
def loadE (T : TypeId → TInfo) (h : EHp) (t : TypeId) : EV → Option EV
 | .pt j o => match (T t).ty with
  | some (ag, m) => match ehget h j with
   | some (.box bt cs) => cond (!(Nat.beq bt itT) && Nat.ble (o + m) cs.length) (wrapE ag ((cs.drop o).take m)) none
   | _ => none
  | none => none
 | _ => none
def resE (T : TypeId → TInfo) (E : ESt) : List ResultVar → Option (List EV)
 | [] => some []
 | r :: rs => match r with
  | .tmp i => match resE T E rs with
   | some cs => some (eget E.t i :: cs)
   | none => none
  | .cell a t => match loadE T E.h t (eget E.t a) with
   | some c => match resE T E rs with
    | some cs => some (c :: cs)
    | none => none
   | none => none
def oneE : List EV → EV
 | [c] => c
 | cs => .tu cs
def resG (T : TypeId → TInfo) (E : ESt) (rs : List ResultVar) : EV := match resE T E rs with
 | some cs => oneE cs
 | none => .un
def keepH' (names : List Nat) : EHp → EHp
 | [] => []
 | (k, o) :: h => cond (names.contains k) ((k, o) :: keepH' names h) (keepH' names h)
def codeAt : List Nat → Code → Code
 | [], c => c
 | 0 :: p, .seq a _ => codeAt p a
 | _ :: p, .seq _ b => codeAt p b
 | 0 :: p, .cond _ a _ => codeAt p a
 | _ :: p, .cond _ _ b => codeAt p b
 | _ :: p, .block _ a => codeAt p a
 | _ :: p, .loop a => codeAt p a
 | _ :: p, .scope a => codeAt p a
 | 0 :: p, .rangeFunc _ _ a _ => codeAt p a
 | _ :: p, .rangeFunc _ _ _ b => codeAt p b
 | _ :: _, c => c
def bodyOf (fn : Func) : Code := match fn.body with
 | some c => c
 | none => .skip
theorem loadE_ok {P : Program} {T : TypeId → TInfo} (hT : TOk P T) {E : ESt} {t : TypeId} {p c : EV} (h : loadE T E.h t p = some c) : loadF P (encE E) (enc p) t = some (enc c) := by
 unfold loadE at h
 split at h
 · rename_i j o
   split at h
   · rename_i ag m ht
     split at h
     · rename_i bt cs hj
       obtain ⟨h1, h2⟩ := cond_none h
       simp only [loadF, hT.ty _ _ ht, enc, cellsF, ehget_ok hj, encO, encL_length]
       simp only [Bool.and_eq_true] at h1
       rw [if_pos ⟨ne_itT h1.1, Nat.le_of_ble_eq_true h1.2⟩, ← encL_drop, ← encL_take]
       exact wrapE_ok h2
     · cases h
   · cases h
 · cases h
theorem resE_ok {P : Program} {T : TypeId → TInfo} (hT : TOk P T) {E : ESt} : ∀ {rs : List ResultVar} {cs : List EV}, resE T E rs = some cs → resF P (encE E) rs = some (encL cs)
 | [], cs, h => by simp only [resE, Option.some.injEq] at h; subst h; rfl
 | r :: rs, cs, h => by
  simp only [resE] at h
  split at h
  · rename_i i
    split at h
    · rename_i cs' hr
      cases h
      simp only [resF, resE_ok hT hr]
      rw [show tget (encE E).t i = enc (eget E.t i) from tget_enc E.t i]; rfl
    · cases h
  · rename_i a t
    split at h
    · rename_i c hc
      split at h
      · rename_i cs' hr
        cases h
        have h1 := loadE_ok hT hc
        rw [← show tget (encE E).t a = enc (eget E.t a) from tget_enc E.t a] at h1
        simp only [resF, resE_ok hT hr, h1]; rfl
      · cases h
    · cases h
theorem oneE_ok (cs : List EV) : oneF (encL cs) = enc (oneE cs) := by
 match cs with
 | [] => rfl
 | [c] => rfl
 | c :: d :: cs => rfl
theorem RCX.drop {P : Program} {f : FuncId} {H0 : Hp} {aS : List AV} {H H2 : Hp} {r : AV} (h : RCX P f H0 aS H r) (hh : ∀ k ob, hget H2 k = some ob → hget H k = some ob) : RCX P f H0 aS H2 r := by
 refine ⟨h.1, fun B Rd e w vs hs hv => (h.2 B Rd e w vs hs hv).mono fun x w' hx => ?_⟩
 obtain ⟨v, e', rfl, hs, hv⟩ := hx
 have hR : ∀ b o u, RDx B Rd e' H w' b o u → RDx B Rd e' H2 w' b o u := fun b o u ⟨h1, h2, h3⟩ => ⟨h1, h2, fun k ob hk hb => h3 k ob (hh k ob hk) hb⟩
 exact ⟨v, e', rfl, ⟨hs.ext, hs.good, fun j ob hj => (hs.ob j ob (hh j ob hj)).mono hR, fun j ob b hj hb => hs.base j ob b (hh j ob hj) hb, fun j j' ob ob' b h1 h2 b1 b2 => hs.inj j j' ob ob' b (hh j ob h1) (hh j' ob' h2) b1 b2, hs.pin⟩, hv.mono hR⟩
theorem keepH'_get (names : List Nat) : ∀ (h : EHp) (k : Nat) (o : EOb), ehget (keepH' names h) k = some o → ehget h k = some o
 | [], k, o, h => by cases h
 | (j, o1) :: h, k, o, hk => by
  simp only [keepH'] at hk
  simp only [ehget]
  cases hc : names.contains j with
  | true =>
   rw [hc] at hk
   simp only [cond_true, ehget] at hk
   by_cases hkj : k = j
   · subst hkj; rw [Nat.beq_refl] at hk ⊢; exact hk
   · rw [beq_no hkj] at hk ⊢; exact keepH'_get names h k o hk
  | false =>
   rw [hc] at hk
   simp only [cond_false] at hk
   have := keepH'_get names h k o hk
   by_cases hkj : k = j
   · subst hkj
     have hno : ∀ (h : EHp), ehget (keepH' names h) k = none := by
      intro h
      induction h with
      | nil => rfl
      | cons p h ih =>
       obtain ⟨a, b⟩ := p
       simp only [keepH']
       cases hca : names.contains a with
       | false => exact ih
       | true =>
        have hak : k ≠ a := fun e => by rw [← e, hc] at hca; cases hca
        simp only [cond_true, ehget, beq_no hak, cond_false]
        exact ih
     rw [hno] at hk; cases hk
   · rw [beq_no hkj]; exact this
theorem keepH'_nil : ∀ h : EHp, keepH' [] h = []
 | [] => rfl
 | (k, o) :: h => by simp only [keepH', List.contains_nil, cond_false, keepH'_nil h]
theorem fillPs_len : ∀ (ps : List PV) (cs : List EV), (fillPs ps cs).1.length = ps.length
 | [], _ => rfl
 | p :: ps, cs => by simp only [fillPs, List.length_cons, fillPs_len ps]
theorem exF_core {P : Program} {T : TypeId → TInfo} {CT : List Ctr} {N : Nat} (hp : Place P T CT) {f : FuncId} {fn : Func} {c : Code} (hf : P.funcs[f]? = some fn) (hnm : (fn.name == "runtime.NumGoroutine") = false) (hc : fn.body = some c) (pl : Pl)
 (aS : List EV) (H0 : EHp) (hlen : aS.length ≤ fn.ntmps) (hbig : fn.ntmps ≤ 1000000) {α : Type} (fin : Exit → ESt → Option α) (y : α) (rs : PS) (a : Tup rs.c) (names : List Nat)
 (hfin : ∀ q E', fin q E' = some y → (q = .normal ∨ q = .ret) ∧ SLe P (encE E') (encE (mkPS E'.n rs a))) (hres : (resE T (mkPS fn.ntmps rs a) fn.results.toList).isSome = true)
 (hxy : exC T CT N c pl ⟨fn.ntmps, entE 0 aS, H0⟩ α fin = some y) : RCX P f (encH H0) (encL aS) (encH (keepH' names (mkPS fn.ntmps rs a).h)) (enc (resG T (mkPS fn.ntmps rs a) fn.results.toList)) := by
 refine RCX.drop (H := encH (mkPS fn.ntmps rs a).h) ?_ (fun k ob hk => ?_)
 · refine RCX.intro hf hnm hc (by rw [encL_length]; exact hlen) hbig ?_
   have := exC_ok (N := N) hp c true (fun h => by cases h) pl ⟨fn.ntmps, entE 0 aS, H0⟩ _ _ _ hxy
   simp only [encE, encT_ent] at this
   refine this.mono fun q s => ?_
   rintro ⟨E', rfl, hn, hk⟩
   obtain ⟨hq, hle⟩ := hfin q E' hk
   refine ⟨hq, ?_⟩
   rw [hn] at hle
   obtain ⟨cs, hcs⟩ := Option.isSome_iff_exists.1 hres
   have h1 := resE_ok hp.t hcs
   refine ⟨encT (mkPS fn.ntmps rs a).t, encL cs, hle, h1, ?_⟩
   rw [oneE_ok]
   simp only [resG, hcs]
 · rw [hget_enc] at hk ⊢
   obtain ⟨o, ho, rfl⟩ := Option.map_eq_some_iff.1 hk
   rw [keepH'_get _ _ _ _ ho]; rfl
theorem exF_okR {P : Program} {T : TypeId → TInfo} {CT : Nat → List Ctr} {N : Nat} (hp : ∀ M, N = M + 1 → Place P T (CT M)) {f : FuncId} {fn : Func} (hf : P.funcs[f]? = some fn) (hnm : (fn.name == "runtime.NumGoroutine") = false) (hb : fn.body.isSome = true) (pl : Pl)
 (ps : List PV) (hs : List (Nat × PO)) (cs : List Sc) (rs : PS) (own pu : Bool) (names : List Nat) (hlen : (Nat.ble ps.length fn.ntmps && Nat.ble fn.ntmps 1000000) = true) (hres : ∀ y, (resE T (mkPS fn.ntmps rs y) fn.results.toList).isSome = true) (hown : own = false → hs = [] ∧ names = [])
 (hpu : ∀ y, (!pu || ((resG T (mkPS fn.ntmps rs y) fn.results.toList).pu && puH (keepH' names (mkPS fn.ntmps rs y).h))) = true)
 (M : Tup cs → Option (Tup rs.c)) (hM : ∀ x, M x = exF T CT N (bodyOf fn) fn.ntmps pl ps hs cs rs x) :
 (Ctr.mk f ps hs cs (Tup rs.c) M (fun y _ k => k (resG T (mkPS fn.ntmps rs y) fn.results.toList) (keepH' names (mkPS fn.ntmps rs y).h)) own pu).ok P := by
 refine ⟨fun ho => (hown ho).1, fun x y hxy => ⟨_, _, fun _ _ => rfl, fun ho => ?_, fun hq => ?_, ?_⟩⟩
 · rw [(hown ho).2]
   exact keepH'_nil _
 · have := hpu y
   simp only at hq
   rw [hq] at this
   simpa using this
 obtain ⟨c, hc⟩ := Option.isSome_iff_exists.1 hb
 have hbody : bodyOf fn = c := by simp only [bodyOf, hc]
 simp only at hxy ⊢
 rw [hM, hbody] at hxy
 simp only [Bool.and_eq_true] at hlen
 cases N with
 | zero => cases hxy
 | succ M =>
 change exC T (CT M) M c pl ⟨fn.ntmps, entE 0 (fillPs ps (splitT cs x)).1, fillH hs (fillPs ps (splitT cs x)).2⟩ _ (finF rs) = some y at hxy
 refine exF_core (hp M rfl) hf hnm hc pl (fillPs ps (splitT cs x)).1 _ (by rw [fillPs_len]; exact Nat.le_of_ble_eq_true hlen.1) (Nat.le_of_ble_eq_true hlen.2) (finF rs) y rs y names (fun q E' hk => ?_) (hres y) hxy
 have hq : (q = .normal ∨ q = .ret) ∧ canonP rs E' some = some y := by
  unfold finF at hk
  split at hk
  · exact ⟨.inl rfl, hk⟩
  · exact ⟨.inr rfl, hk⟩
  · cases hk
 obtain ⟨hq, hk⟩ := hq
 obtain ⟨y', hle, hy'⟩ := canonP_ok (P := P) hk
 cases hy'
 exact ⟨hq, hle⟩
theorem exF_ok {P : Program} {T : TypeId → TInfo} {CT : Nat → List Ctr} {N : Nat} (hp : ∀ M, Place P T (CT M)) {f : FuncId} {fn : Func} (hf : P.funcs[f]? = some fn) (hnm : (fn.name == "runtime.NumGoroutine") = false) (hb : fn.body.isSome = true) (pl : Pl)
 (ps : List PV) (hs : List (Nat × PO)) (cs : List Sc) (rs : PS) (own pu : Bool) (names : List Nat) (hlen : (Nat.ble ps.length fn.ntmps && Nat.ble fn.ntmps 1000000) = true) (hres : ∀ y, (resE T (mkPS fn.ntmps rs y) fn.results.toList).isSome = true) (hown : own = false → hs = [] ∧ names = [])
 (hpu : ∀ y, (!pu || ((resG T (mkPS fn.ntmps rs y) fn.results.toList).pu && puH (keepH' names (mkPS fn.ntmps rs y).h))) = true)
 (M : Tup cs → Option (Tup rs.c)) (hM : ∀ x, M x = exF T CT N (bodyOf fn) fn.ntmps pl ps hs cs rs x) :
 (Ctr.mk f ps hs cs (Tup rs.c) M (fun y _ k => k (resG T (mkPS fn.ntmps rs y) fn.results.toList) (keepH' names (mkPS fn.ntmps rs y).h)) own pu).ok P :=
 exF_okR (fun M _ => hp M) hf hnm hb pl ps hs cs rs own pu names hlen hres hown hpu M hM
end
end
noncomputable section
open Go Go.RowKit
noncomputable section
structure TGood (P : Program) (t : TypeId) (i : TInfo) : Prop where
 ty : ∀ x, i.ty = some x → tyA P t = some x
 el : ∀ x, i.el = some x → elA P t = some x
 slT : i.slT = true → slT P t = true
 bo : i.bo = true → P.underlying t = some .bool
 ar : ∀ x, i.ar = some x → arA P t = some x
 fd : ∀ (f : Nat) x, i.fd[f]? = some x → fdA P t f = some x
 pl : ∀ z l, i.pl = some (z, l) → ∃ f, plA P t = some (z, f) ∧ ∀ (i : Nat) p, l[i]? = some p → f i = some p
 ze : ∀ x, i.ze = some x → zeroA P t = some x
 mp : ∀ x, i.mp = some x → mapA P t = some x
 ik : ∀ k, i.ik = some k → P.underlying t = some (.int k)
 eq : ∀ s, i.eq = some s → EqOk P t s
 sg : i.sg = true → P.underlying t = some .string
 nf : i.nf = true → ∃ ms, P.underlying t = some (.interface ms)
 zv : ∀ x, i.zv = some x → zvT P t = some x
def tiF : List (TypeId × TInfo) → TypeId → TInfo
 | [], _ => TInfo.mk none none false false none [] none none none none none none none false false none
 | (j, i) :: l, t => cond (Nat.beq j t) i (tiF l t)
def TiAll (P : Program) (l : List (TypeId × TInfo)) : Prop := ∀ p ∈ l, TGood P p.1 p.2
theorem tiAll_nil {P : Program} : TiAll P [] := fun p h => by cases h
theorem tiAll_cons {P : Program} {t : TypeId} {i : TInfo} {l : List (TypeId × TInfo)} (h : TGood P t i) (hs : TiAll P l) : TiAll P ((t, i) :: l) := fun p hp => by
 rcases List.mem_cons.1 hp with rfl | hp
 · exact h
 · exact hs p hp
theorem tgood_none {P : Program} {t : TypeId} : TGood P t (TInfo.mk none none false false none [] none none none none none none none false false none) :=
 { ty := fun _ h => by cases h
   el := fun _ h => by cases h
   slT := fun h => by cases h
   bo := fun h => by cases h
   ar := fun _ h => by cases h
   fd := fun _ _ h => by simp at h
   pl := fun _ _ h => by cases h
   ze := fun _ h => by cases h
   mp := fun _ h => by cases h
   ik := fun _ h => by cases h
   eq := fun _ h => by cases h
   sg := fun h => by cases h
   nf := fun h => by cases h
   zv := fun _ h => by cases h }
theorem tiF_good {P : Program} : ∀ {l : List (TypeId × TInfo)}, TiAll P l → ∀ t, TGood P t (tiF l t)
 | [], _, t => tgood_none
 | (j, i) :: l, h, t => by
  simp only [tiF]
  cases hb : Nat.beq j t with
  | true =>
   have := Nat.eq_of_beq_eq_true hb
   subst this
   exact h (j, i) (by simp)
  | false => exact tiF_good (fun p hp => h p (by simp [hp])) t
theorem tok_of {P : Program} {l : List (TypeId × TInfo)} (h : TiAll P l) : TOk P (tiF l) where
 ty := fun t => (tiF_good h t).ty
 el := fun t => (tiF_good h t).el
 slT := fun t => (tiF_good h t).slT
 bo := fun t => (tiF_good h t).bo
 ar := fun t => (tiF_good h t).ar
 fd := fun t => (tiF_good h t).fd
 pl := fun t => (tiF_good h t).pl
 ze := fun t => (tiF_good h t).ze
 mp := fun t => (tiF_good h t).mp
 ik := fun t => (tiF_good h t).ik
 eq := fun t => (tiF_good h t).eq
 sg := fun t => (tiF_good h t).sg
 nf := fun t => (tiF_good h t).nf
 zv := fun t => (tiF_good h t).zv
theorem of_kr {α : Type} {a b : Option α} (h : a = b) : ∀ x, b = some x → a = some x := fun _ hx => h.trans hx
theorem of_kb {a b : Bool} (h : a = b) : b = true → a = true := fun hx => h.trans hx
def boB (P : Program) (t : TypeId) : Bool := match P.underlying t with
 | some .bool => true
 | _ => false
def sgB (P : Program) (t : TypeId) : Bool := match P.underlying t with
 | some .string => true
 | _ => false
theorem of_ksg {P : Program} {t : TypeId} {b : Bool} (h : sgB P t = b) : b = true → P.underlying t = some .string := fun hx => by
 have h := h.trans hx
 unfold sgB at h
 split at h
 · assumption
 · cases h
theorem tgood_str {P : Program} {t : TypeId} (h : sgB P t = true) : TGood P t { sg := true } :=
 { ty := fun _ h => by cases h
   el := fun _ h => by cases h
   slT := fun h => by cases h
   bo := fun h => by cases h
   ar := fun _ h => by cases h
   fd := fun _ _ h => by simp at h
   pl := fun _ _ h => by cases h
   ze := fun _ h => by cases h
   mp := fun _ h => by cases h
   ik := fun _ h => by cases h
   eq := fun _ h => by cases h
   sg := fun _ => of_ksg h rfl
   nf := fun h => by cases h
   zv := fun _ h => by cases h }
def nfB (P : Program) (t : TypeId) : Bool := match P.underlying t with
 | some (.interface _) => true
 | _ => false
theorem of_knf {P : Program} {t : TypeId} {b : Bool} (h : nfB P t = b) : b = true → ∃ ms, P.underlying t = some (.interface ms) := fun hx => by
 have h := h.trans hx
 unfold nfB at h
 split at h
 · exact ⟨_, by assumption⟩
 · cases h
theorem of_kzv {P : Program} {t : TypeId} {b : Option Value} (h : (match b with | some _ => zvT P t | none => none) = b) : ∀ x, b = some x → zvT P t = some x := fun x hx => by
 subst hx
 exact h
theorem tgood_nf {P : Program} {t : TypeId} (h : nfB P t = true) : TGood P t { nf := true } :=
 { ty := fun _ h => by cases h
   el := fun _ h => by cases h
   slT := fun h => by cases h
   bo := fun h => by cases h
   ar := fun _ h => by cases h
   fd := fun _ _ h => by simp at h
   pl := fun _ _ h => by cases h
   ze := fun _ h => by cases h
   mp := fun _ h => by cases h
   ik := fun _ h => by cases h
   eq := fun _ h => by cases h
   sg := fun h => by cases h
   nf := fun _ => of_knf h rfl
   zv := fun _ h => by cases h }
theorem of_kbo {P : Program} {t : TypeId} {b : Bool} (h : boB P t = b) : b = true → P.underlying t = some .bool := fun hx => by
 have h := h.trans hx
 unfold boB at h
 split at h
 · assumption
 · cases h
def ikF (P : Program) (t : TypeId) : Option IntKind := match P.underlying t with
 | some (.int k) => some k
 | _ => none
theorem of_kik {P : Program} {t : TypeId} {b : Option IntKind} (h : ikF P t = b) : ∀ k, b = some k → P.underlying t = some (.int k) := fun k hx => by
 have h := h.trans hx
 unfold ikF at h
 split at h
 · cases h; assumption
 · cases h
theorem of_kfd {P : Program} {t : TypeId} {l : List (Nat × Bool × Nat)} (h : (List.range l.length).map (fdA P t) = l.map some) : ∀ (f : Nat) x, l[f]? = some x → fdA P t f = some x := fun f x hx => by
 have hlt := (List.getElem?_eq_some_iff.1 hx).1
 have h1 := congrArg (fun q => q[f]?) h
 simp only [List.getElem?_map, List.getElem?_range hlt, hx, Option.map_some] at h1
 exact Option.some.inj h1
def plF (P : Program) (t : TypeId) (n : Nat) : Option (List Value × List (Option (Nat × Nat))) := (plA P t).map fun p => (p.1, (List.range n).map p.2)
theorem of_kpl {P : Program} {t : TypeId} {o : Option (List Value × List (Nat × Nat))} (h : (match o with
 | some (_, l) => plF P t l.length
 | none => none) = o.map fun p => (p.1, p.2.map some)) : ∀ z l, o = some (z, l) → ∃ f, plA P t = some (z, f) ∧ ∀ (i : Nat) p, l[i]? = some p → f i = some p := fun z l hx => by
 subst hx
 simp only [plF, Option.map_some] at h
 cases hp : plA P t with
 | none => rw [hp] at h; cases h
 | some q =>
  rw [hp] at h
  simp only [Option.map_some, Option.some.injEq, Prod.mk.injEq] at h
  refine ⟨q.2, by rw [← h.1], fun i p hi => ?_⟩
  have hlt := (List.getElem?_eq_some_iff.1 hi).1
  have h1 := congrArg (fun q => q[i]?) h.2
  simp only [List.getElem?_map, List.getElem?_range hlt, hi, Option.map_some] at h1
  exact Option.some.inj h1
def fdS (P : Program) (f : Field) (o : Nat) : Sc → Bool
 | .i k => decide (f.offset = o) && f.name != "_" && (match P.underlying f.type with
  | some (.int l) => decide (k = l)
  | _ => false)
 | .b => decide (f.offset = o) && f.name != "_" && (match P.underlying f.type with
  | some .bool => true
  | _ => false)
 | _ => false
def fdsS (P : Program) : List Field → Nat → Sc → Bool
 | [f], o, .i k => fdS P f o (.i k)
 | [f], o, .b => fdS P f o .b
 | f :: fs, o, .pr x y => fdS P f o x && fdsS P fs (o + 1) y
 | [], _, .u => true
 | _, _, _ => false
theorem fdS_ok {P : Program} {f : Field} {o : Nat} {s : Sc} (h : fdS P f o s = true) {xs ys : Array Value} {x y : s.Val} {rx ry : List Value} (hx : xs.toList.drop o = keyVs s x ++ rx) (hy : ys.toList.drop o = keyVs s y ++ ry) (d : Nat) (w : World) :
 f.name ≠ "_" ∧ ∃ a b, (part f.type xs f.offset).run P w = .ok a w ∧ (part f.type ys f.offset).run P w = .ok b w ∧ (Op.equalIn (d + 1) f.type a b).run P w = .ok (eqV s x y) w ∧ xs.toList.drop (o + 1) = rx ∧ ys.toList.drop (o + 1) = ry := by
 have get : ∀ {zs : Array Value} {v : Value} {r : List Value}, zs.toList.drop o = [v] ++ r → zs[o]? = some v ∧ zs.toList.drop (o + 1) = r := by
  intro zs v r hz
  constructor
  · have h0 := congrArg (fun l => l[0]?) hz
    simpa using h0
  · have h0 := congrArg (fun l => l.drop 1) hz
    simpa [List.drop_drop, Nat.add_comm] using h0
 cases s with
 | i k =>
  simp only [fdS, Bool.and_eq_true, decide_eq_true_eq, bne_iff_ne, ne_eq] at h
  obtain ⟨⟨h1, h2⟩, h3⟩ := h
  split at h3
  · rename_i l hu
    have h3 := of_decide_eq_true h3
    subst h3 h1
    obtain ⟨g1, g2⟩ := get hx
    obtain ⟨g3, g4⟩ := get hy
    have hp : P.plainKey f.type = true := by simp [Program.plainKey, hu]
    refine ⟨h2, _, _, run_part_plain w hp g1, run_part_plain w hp g3, ?_, g2, g4⟩
    have := run_equalIn_int w d f.type k k x y hu
    rw [this]
    rfl
  · cases h3
 | b =>
  simp only [fdS, Bool.and_eq_true, decide_eq_true_eq, bne_iff_ne, ne_eq] at h
  obtain ⟨⟨h1, h2⟩, h3⟩ := h
  split at h3
  · rename_i hu
    subst h1
    obtain ⟨g1, g2⟩ := get hx
    obtain ⟨g3, g4⟩ := get hy
    have hp : P.plainKey f.type = true := by simp [Program.plainKey, hu]
    refine ⟨h2, _, _, run_part_plain w hp g1, run_part_plain w hp g3, ?_, g2, g4⟩
    exact run_equalIn_bool w d f.type x y hu
  · cases h3
 | sl r => cases h
 | pr a c => cases h
 | u => cases h
theorem fdsS_ok {P : Program} (d : Nat) (w : World) (xs ys : Array Value) : ∀ (fs : List Field) (o : Nat) (s : Sc) (x y : s.Val), fdsS P fs o s = true → xs.toList.drop o = keyVs s x → ys.toList.drop o = keyVs s y →
 (Op.eqFields (d + 1) xs ys fs).run P w = .ok (eqV s x y) w := by
 intro fs
 induction fs with
 | nil =>
  intro o s x y h hx hy
  cases s <;> first | (cases h; done) | (simp [Op.eqFields, eqV])
 | cons f fs ih =>
  intro o s x y h hx hy
  cases s with
  | i k =>
   cases fs with
   | cons g gs => cases h
   | nil =>
    obtain ⟨h1, a, b, p1, p2, p3, _, _⟩ := fdS_ok (s := .i k) h (x := x) (y := y) (rx := []) (ry := []) (by simpa using hx) (by simpa using hy) d w
    simp only [Op.eqFields, h1, ne_eq, not_false_eq_true, if_true, Sem.run_bind, p1, p2, p3, Result.andThen_ok]
    cases eqV (.i k) x y <;> simp
  | b =>
   cases fs with
   | cons g gs => cases h
   | nil =>
    obtain ⟨h1, a, b, p1, p2, p3, _, _⟩ := fdS_ok (s := .b) h (x := x) (y := y) (rx := []) (ry := []) (by simpa using hx) (by simpa using hy) d w
    simp only [Op.eqFields, h1, ne_eq, not_false_eq_true, if_true, Sem.run_bind, p1, p2, p3, Result.andThen_ok]
    cases eqV .b x y <;> simp
  | sl r => cases fs <;> cases h
  | u => cases fs <;> cases h
  | pr p q =>
   have h' : fdS P f o p = true ∧ fdsS P fs (o + 1) q = true := by
    cases fs <;> simpa [fdsS] using h
   obtain ⟨h1, a, b, p1, p2, p3, g1, g2⟩ := fdS_ok h'.1 (x := x.1) (y := y.1) hx hy d w
   have := ih (o + 1) q x.2 y.2 h'.2 g1 g2
   simp only [Op.eqFields, h1, ne_eq, not_false_eq_true, if_true, Sem.run_bind, p1, p2, p3, Result.andThen_ok, eqV]
   cases eqV p x.1 y.1 with
   | false => simp
   | true => simpa using this
theorem eqOk_of {P : Program} {t : TypeId} {s : Sc} {fs : Array Field} (hk : s.key = true) (h1 : P.underlying t = some (.struct fs)) (h5 : P.stoodInHeld t = false) (h2 : P.eqGuardType P.depth t = false)
 (h3 : fdsS P fs.toList 0 s = true) : EqOk P t s := by
 refine ⟨hk, fun x y w => ⟨?_, fun op a b => ?_⟩⟩
 · have hf : P.fieldsOf t = fs := by simp [Program.fieldsOf, h1]
   show (Op.equalIn (9999 + 1) _ _ _).run P w = _
   rw [run_equalIn_struct w 9999 t _ _ (by rw [hf]; exact h1) h5, hf]
   exact fdsS_ok 9998 w _ _ fs.toList 0 s x y h3 (by simp) (by simp)
 · unfold eqGuard
   cases op <;> simp [Sem.run_bind, h2]
def stF (P : Program) (t : TypeId) : Option (Array Field) := match P.underlying t with
 | some (.struct fs) => some fs
 | _ => none
def eqB (P : Program) (t : TypeId) (s : Sc) : Bool := s.key && !(P.stoodInHeld t) && !(P.eqGuardType P.depth t) && (match stF P t with
 | some fs => fdsS P fs.toList 0 s
 | none => false)
theorem of_keq {P : Program} {t : TypeId} {o : Option Sc} (h : (match o with
 | some s => eqB P t s
 | none => true) = true) : ∀ s, o = some s → EqOk P t s := fun s hx => by
 subst hx
 simp only [eqB, Bool.and_eq_true, Bool.not_eq_true'] at h
 obtain ⟨⟨⟨h1, h2⟩, h3⟩, h4⟩ := h
 split at h4
 · rename_i fs hf
   unfold stF at hf
   split at hf
   · cases hf
     exact eqOk_of h1 (by assumption) h2 h3 h4
   · cases hf
 · cases h4
theorem ctAll_nil {P : Program} : ∀ c ∈ ([] : List Ctr), c.ok P := fun c h => by cases h
theorem ctAll_cons {P : Program} {c : Ctr} {l : List Ctr} (h : c.ok P) (hs : ∀ d ∈ l, d.ok P) : ∀ d ∈ c :: l, d.ok P := fun d hd => by
 rcases List.mem_cons.1 hd with rfl | hd
 · exact h
 · exact hs d hd
end
end
noncomputable section
open Go.ChangeShapes Go.WideShapes Go.ChangeAt Go.RowKit
section
variable {H : Type} {enc : TypeId × Value → H} {P : Program}
theorem trodAll_ext (hl : laidOutB P = true) {W W' : World} (hb : Ext W W') : ∀ {ts : List TypeId} {vs : List Value} {ds : List (DataW H)} {p : List MemPlace},
 (∀ t ∈ ts, P.readableRec t = true ∧ t < P.types.size) → DataW.TrodAll enc P W 0 (fun _ => true) true ts vs ds p → (∀ x ∈ p, x.block < W.heap.size) →
 DataW.TrodAll enc P W' 0 (fun b => decide (b < W.heap.size)) true ts vs ds p
 | [], [], [], _, _, h, _ => h
 | [], [], _ :: _, _, _, h, _ => h.elim
 | [], _ :: _, _, _, _, h, _ => h.elim
 | _ :: _, [], _, _, _, h, _ => h.elim
 | _ :: _, _ :: _, [], _, _, h, _ => h.elim
 | t :: ts, v :: vs, d :: ds, p, hr, h, hp => by
  obtain ⟨p1, q1, h1, h2, rfl⟩ := h
  have ht := hr t (by simp)
  exact ⟨p1, q1, Below.trod hl ht.1 ht.2 h1 hb (fun x hx => hp x (by simp [hx])), trodAll_ext hl hb (fun u hu => hr u (by simp [hu])) h2 (fun x hx => hp x (by simp [hx])), rfl⟩
theorem law_post (hl : laidOutB P = true) {fn : Func} {s : ChangeSpec} {W : World} {args : Array Value} {ds gs : List (DataW H)} {before : List MemPlace} {f : FuncId} {tb : TypeId}
 (hv : s.vars = []) (hr : ∀ t ∈ fn.params.toList, P.readableRec t = true ∧ t < P.types.size) (hrt : fn.resultTypes = #[tb]) (htb : P.underlying tb = some .bool)
 (hW : DataW.Whole enc P fn.params.toList s.vars false W args.toList ds gs before)
 (hs : s.fn H (ds ++ gs) = { results := [.lit (.bool true)], args := ds })
 (hc : Calls P f args W fun e w' => e = .returned (.bool true) ∧ Ext W w') :
 Calls P f args W fun e W' => ∃ v, e = .returned v ∧ s.post enc P fn false true false false W args v W' := by
 refine hc.mono fun e W' ⟨he, hb⟩ => ⟨_, he, ?_⟩
 have hlt : ∀ p ∈ before, p.block < W.heap.size := hW.lt
 have hW2 := hW
 obtain ⟨p, q, hA, hV, rfl, hfz, hnd⟩ := hW2
 rw [hv] at hV
 have hgs : gs = [] := by
  cases gs with
  | nil => rfl
  | cons g gs => exact hV.elim
 subst hgs
 refine ⟨ds, [], p ++ q, [], p, [], hW, ?_, ?_, ?_, Below.frame hb _, fun h => by cases h⟩
 · rw [hs, hrt]
   exact trodAll_mk1 (shut_bool htb true)
 · rw [hs]
   exact trodAll_ext hl hb hr hA (fun x hx => hlt x (by simp [hx]))
 · rw [hv, hs]
   rfl
end
end
end Go.Proofs.YtpccioglcgobkaaGreatDoor
