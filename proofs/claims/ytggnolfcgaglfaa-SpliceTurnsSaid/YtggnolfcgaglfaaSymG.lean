/- Values that are built, slices that are made, cut, lent. -/
import Derived.Test.YtggnolfcgaglfaaSymF
set_option linter.unusedVariables false
set_option linter.unusedSimpArgs false
namespace Go.Proofs.Ytggnolfcgaglfaa
open Go Go.RowKit

/-- hangs on no object -/
def AV.fz : AV → Bool
  | .un | .v _ | .sl .. | .fp _ => true
  | _ => false
theorem VR.none_of_fz {Rd : Nat → Nat → Value → Prop} {E : Option Env} {c : AV} {u : Value} (h : VR Rd E c u) (hf : c.fz = true) : VR Rd none c u := by
  cases h with
  | un => exact .un
  | v => exact .v
  | sl us hw h1c hl hc h1 h2 h3 ha => exact .sl us hw h1c hl hc h1 h2 h3 ha
  | fp us hl hc ha => exact .fp us hl hc ha
  | _ => simp [AV.fz] at hf

/-! ### structs and arrays, by value -/
def plA (P : Program) (t : TypeId) : Option (List Value × (Nat → Option (Nat × Nat))) :=
  match P.info? t, P.underlying t with
  | some it, some (.array _ e) =>
    match it.zero, P.info? e with
    | some z, some ie => some (z.cells.toList, fun i => some (i * ie.size, ie.size))
    | _, _ => none
  | some it, some (.struct fields) =>
    match it.zero, fields.toList.mapM (fun f => (P.info? f.type).map fun i => (f.offset, i.size)) with
    | some z, some places => some (z.cells.toList, fun i => places[i]?)
    | _, _ => none
  | _, _ => none
def fillA (place : Nat → Option (Nat × Nat)) (cs : List AV) : List (Nat × List AV) → Option (List AV)
  | [] => some cs
  | (i, xs) :: rest => match place i with
    | none => none
    | some (off, size) => if xs.length = size ∧ off + size ≤ cs.length then fillA place (setCells cs off xs) rest else none

theorem setCells_ok {R : AV → Value → Prop} : ∀ (xs : List AV) (us : List Value) (cs : List AV) (vs : Array Value) (o : Nat), LR R cs vs.toList → LR R xs us →
    LR R (setCells cs o xs) ((us.zipIdx).foldl (fun (cs : Array Value) (p : Value × Nat) => cs.setIfInBounds (o + p.2) p.1) vs).toList := by
  have key : ∀ (xs : List AV) (us : List Value) (cs : List AV) (vs : Array Value) (o i : Nat), LR R cs vs.toList → LR R xs us →
      LR R (setCells cs (o + i) xs) ((us.zipIdx i).foldl (fun (cs : Array Value) (p : Value × Nat) => cs.setIfInBounds (o + p.2) p.1) vs).toList := by
    intro xs
    induction xs with
    | nil =>
      intro us cs vs o i h hx
      have : us = [] := List.eq_nil_of_length_eq_zero (by simpa using hx.1)
      subst this
      simpa [setCells] using h
    | cons x xs ih =>
      intro us cs vs o i h hx
      cases us with
      | nil => have := hx.1; simp at this
      | cons u us =>
        have h0 : R x u := hx.2 0 x u rfl rfl
        have h1 : LR R xs us := ⟨by simpa using hx.1, fun j c v hc hv => hx.2 (j + 1) c v (by simpa using hc) (by simpa using hv)⟩
        simp only [setCells, List.zipIdx_cons, List.foldl_cons]
        rw [Nat.add_assoc]
        refine ih us _ _ o (i + 1) ?_ h1
        rw [Array.toList_setIfInBounds]
        exact h.set _ h0
  intro xs us cs vs o h hx
  exact key xs us cs vs o 0 h hx

theorem fill_ok {R : AV → Value → Prop} {place : Nat → Option (Nat × Nat)} : ∀ (ps : List (Nat × List AV)) (vs : List (Nat × Value)) (cs cs' : List AV) (cells : Array Value),
    LR R cs cells.toList → ps.length = vs.length → (∀ (j : Nat) p q, ps[j]? = some p → vs[j]? = some q → p.1 = q.1 ∧ LR R p.2 q.2.cells.toList) → fillA place cs ps = some cs' →
    ∃ cells', Instr.fill place cells vs = some cells' ∧ LR R cs' cells'.toList
  | [], [], cs, cs', cells, h, _, _, hf => by
    simp only [fillA, Option.some.injEq] at hf
    subst hf
    exact ⟨cells, rfl, h⟩
  | (i, xs) :: ps, (i', v) :: vs, cs, cs', cells, h, hl, hp, hf => by
    obtain ⟨rfl, hx⟩ := hp 0 _ _ rfl rfl
    simp only at hx
    simp only [fillA] at hf
    cases hpl : place i with
    | none => simp [hpl] at hf
    | some os =>
      obtain ⟨off, size⟩ := os
      simp only [hpl] at hf
      split at hf
      · rename_i hc
        have h1 := setCells_ok xs v.cells.toList cs cells off h hx
        obtain ⟨cells', hc', hlr⟩ := fill_ok ps vs _ cs' _ h1 (by simpa using hl) (fun j p q hp1 hq1 => hp (j + 1) p q (by simpa using hp1) (by simpa using hq1)) hf
        refine ⟨cells', ?_, hlr⟩
        have hvs : v.cells.size = size := by have := hx.1; simp at this; omega
        have hcl : cells.size = cs.length := by have := h.1; simpa using this
        have hcond : (v.cells.size ≠ size || off + v.cells.size > cells.size) = false := by simp; omega
        simp only [Instr.fill, hpl, hcond]
        rw [if_neg (by simp)]
        rw [← hc']
        congr 1
        rw [← Array.foldl_toList, Array.toList_zipIdx]
      · cases hf
  | [], _ :: _, _, _, _, _, hl, _, _ => by simp at hl
  | _ :: _, [], _, _, _, _, hl, _, _ => by simp at hl

def partsA (st : St) : List (Nat × Operand) → Option (List (Nat × List AV))
  | [] => some []
  | (i, x) :: ps => match cellsOf (st.ev x), partsA st ps with
    | some cs, some r => some ((i, cs) :: r)
    | _, _ => none
def partsOw (st : St) : List (Nat × Operand) → Bool
  | [] => true
  | (_, x) :: ps => owOk st.h (st.ev x) && partsOw st ps

section
variable {P : Program} {st : St} {d : Nat} {dd : Option Tmp} {ty : TypeId} {pos : String} {af : Array Edge} {gd : Option (Nat × Bool)} {K : St → Prop}

theorem parts_ok {w0 : Bs} {Rd0 : Nat → Nat → Value → Prop} {e : Env} {a : Act} {w : World} (h : Ga w0 Rd0 e st a w) : ∀ (ps : List (Nat × Operand)) (qs : List (Nat × List AV)), partsA st ps = some qs → partsOw st ps = true →
    qs.length = (ps.map fun p => (p.1, a.eval p.2)).length ∧ ∀ (j : Nat) p q, qs[j]? = some p → (ps.map fun p => (p.1, a.eval p.2))[j]? = some q → p.1 = q.1 ∧ LR (VR (RDx w0 Rd0 e st.h w) (some e)) p.2 q.2.cells.toList
  | [], qs, hq, _ => by simp only [partsA, Option.some.injEq] at hq; subst hq; simp
  | (i, x) :: ps, qs, hq, ho => by
    simp only [partsA] at hq
    simp only [partsOw, Bool.and_eq_true] at ho
    cases hc : cellsOf (st.ev x) with
    | none => simp [hc] at hq
    | some cs =>
      cases hr : partsA st ps with
      | none => simp [hc, hr] at hq
      | some r =>
        simp only [hc, hr, Option.some.injEq] at hq
        subst hq
        obtain ⟨h1, h2⟩ := parts_ok h ps r hr ho.2
        refine ⟨by simpa using h1, fun j p q hp hq => ?_⟩
        cases j with
        | zero =>
          simp at hp hq
          subst hp; subst hq
          obtain ⟨us, hu, hlr⟩ := cellsOf_ok hc (h.ev x) (h.owOk ho.1)
          exact ⟨rfl, by simpa [hu] using hlr⟩
        | succ j => exact h2 j p q (by simpa using hp) (by simpa using hq)

theorem RS.build {t : TypeId} {parts : Array (Nat × Operand)} {z : List Value} {pl : Nat → Option (Nat × Nat)} {qs : List (Nat × List AV)} {cs : List AV} (ht : plA P t = some (z, pl)) (hq : partsA st parts.toList = some qs) (ho : partsOw st parts.toList = true)
    (hf : fillA pl (z.map cvA) qs = some cs) : RS P ⟨dd, .build t parts, ty, pos, af, gd⟩ st (.ag cs) := fun w0 Rd0 e a w h => by
  obtain ⟨h1, h2⟩ := parts_ok h parts.toList qs hq ho
  have hz : LR (VR (RDx w0 Rd0 e st.h w) (some e)) (z.map cvA) z.toArray.toList := by simpa using cvA_list z
  obtain ⟨cells', hfill, hlr⟩ := fill_ok (place := pl) qs _ (z.map cvA) cs z.toArray hz h1 h2 hf
  refine ⟨.agg cells'.toList.toArray, .ag _ hlr.1 hlr.2, fun w' _ => ?_⟩
  have hb : P.built t (parts.map fun (i, x) => (i, a.eval x)).toList = some cells' := by
    unfold plA at ht
    unfold Program.built
    simp only [Array.toList_map]
    split at ht
    · rename_i it n e h3 h4
      split at ht
      · rename_i zv ie h5 h6
        simp only [Option.some.injEq, Prod.mk.injEq] at ht
        obtain ⟨rfl, rfl⟩ := ht
        simp only [h3, h4, h5, h6]
        simpa using hfill
      · cases ht
    · rename_i it fields h3 h4
      split at ht
      · rename_i zv places h5 h6
        simp only [Option.some.injEq, Prod.mk.injEq] at ht
        obtain ⟨rfl, rfl⟩ := ht
        simp only [h3, h4, h5, h6]
        simpa using hfill
      · cases ht
    · cases ht
  have := run_build w' t _ cells' hb
  simp only [execOp, Sem.run_bind, this, Result.andThen_ok, Sem.run_pure, Array.toArray_toList]

/-! ### lent -/
def lendC (h : Hp) : AV → Option (Hp × AV)
  | .ow k => match hget h k with
    | some (.arr t sz rows _) => some ((k, some (.arr t sz rows false)) :: h, .sl false sz rows)
    | _ => none
  | c => if c.fz then some (h, c) else none
def lendCs (h : Hp) : List AV → Option (Hp × List AV)
  | [] => some (h, [])
  | c :: cs => match lendC h c with
    | some (h1, c1) => match lendCs h1 cs with
      | some (h2, cs2) => some (h2, c1 :: cs2)
      | none => none
    | none => none
def lendA (h : Hp) : AV → Option (Hp × AV)
  | .ag cs => match lendCs h cs with
    | some (h1, cs1) => some (h1, .ag cs1)
    | none => none
  | c => lendC h c
def lendAs (h : Hp) : List AV → Option (Hp × List AV)
  | [] => some (h, [])
  | c :: cs => match lendA h c with
    | some (h1, c1) => match lendAs h1 cs with
      | some (h2, cs2) => some (h2, c1 :: cs2)
      | none => none
    | none => none

/-- behind a lending: the same frame, more that is never written again -/
structure Lent (w0 : Bs) (Rd0 : Nat → Nat → Value → Prop) (e : Env) (h : Hp) (w : World) (e' : Env) (h' : Hp) : Prop where
  sr : SR w0 Rd0 e' h' w
  rd : ∀ b o u, RDx w0 Rd0 e h w b o u → RDx w0 Rd0 e' h' w b o u
  blk : ∀ j, e'.blk j = e.blk j
  sv : ∀ j, e'.sv j = e.sv j
theorem Lent.trans {w0 : Bs} {Rd0 : Nat → Nat → Value → Prop} {e e' e'' : Env} {h h' h'' : Hp} {w : World} (a : Lent w0 Rd0 e h w e' h') (b : Lent w0 Rd0 e' h' w e'' h'') : Lent w0 Rd0 e h w e'' h'' :=
  ⟨b.sr, fun x o u hr => b.rd x o u (a.rd x o u hr), fun j => (b.blk j).trans (a.blk j), fun j => (b.sv j).trans (a.sv j)⟩
theorem Lent.refl {w0 : Bs} {Rd0 : Nat → Nat → Value → Prop} {e : Env} {h : Hp} {w : World} (hs : SR w0 Rd0 e h w) : Lent w0 Rd0 e h w e h := ⟨hs, fun _ _ _ h => h, fun _ => rfl, fun _ => rfl⟩
theorem lendC_ok {w0 : Bs} {Rd0 : Nat → Nat → Value → Prop} {e : Env} {h h' : Hp} {w : World} (hs : SR w0 Rd0 e h w) {c c' : AV} {u : Value} (hv : VR (RDx w0 Rd0 e h w) (some e) c u) (hl : lendC h c = some (h', c')) :
    ∃ e', Lent w0 Rd0 e h w e' h' ∧ VR (RDx w0 Rd0 e' h' w) none c' u := by
  cases c with
  | ow k =>
    simp only [lendC] at hl
    split at hl
    · rename_i t sz rows wr hk
      simp only [Option.some.injEq, Prod.mk.injEq] at hl
      obtain ⟨rfl, rfl⟩ := hl
      obtain ⟨e', h1, h2, h3, h4, h5⟩ := hs.lend hk
      cases hv with
      | ow => exact ⟨e', ⟨h1, h2, h3, h4⟩, h5⟩
    · cases hl
  | _ =>
    simp only [lendC] at hl
    split at hl
    · rename_i hf
      simp only [Option.some.injEq, Prod.mk.injEq] at hl
      obtain ⟨rfl, rfl⟩ := hl
      exact ⟨e, Lent.refl hs, hv.none_of_fz hf⟩
    · cases hl
theorem lendCs_ok {w0 : Bs} {Rd0 : Nat → Nat → Value → Prop} {w : World} : ∀ (cs : List AV) (us : List Value) (e : Env) (h h' : Hp) (cs' : List AV), SR w0 Rd0 e h w → LR (VR (RDx w0 Rd0 e h w) (some e)) cs us → lendCs h cs = some (h', cs') →
    ∃ e', Lent w0 Rd0 e h w e' h' ∧ LR (VR (RDx w0 Rd0 e' h' w) none) cs' us
  | [], us, e, h, h', cs', hs, hv, hl => by
    simp only [lendCs, Option.some.injEq, Prod.mk.injEq] at hl
    obtain ⟨rfl, rfl⟩ := hl
    have : us = [] := List.eq_nil_of_length_eq_zero (by simpa using hv.1)
    subst this
    exact ⟨e, Lent.refl hs, LR.nil⟩
  | c :: cs, us, e, h, h', cs', hs, hv, hl => by
    cases us with
    | nil => have := hv.1; simp at this
    | cons u us =>
      simp only [lendCs] at hl
      split at hl
      · rename_i h1 c1 hc1
        split at hl
        · rename_i h2 cs2 hc2
          simp only [Option.some.injEq, Prod.mk.injEq] at hl
          obtain ⟨rfl, rfl⟩ := hl
          obtain ⟨e1, l1, v1⟩ := lendC_ok hs (hv.2 0 c u rfl rfl) hc1
          have hv' : LR (VR (RDx w0 Rd0 e1 h1 w) (some e1)) cs us := ⟨by simpa using hv.1, fun j x y hx hy => ((hv.2 (j + 1) x y (by simpa using hx) (by simpa using hy)).mono l1.rd).envEq rfl l1.blk l1.sv⟩
          obtain ⟨e2, l2, v2⟩ := lendCs_ok cs us e1 h1 h2 cs2 l1.sr hv' hc2
          exact ⟨e2, l1.trans l2, LR.cons (v1.mono l2.rd) v2⟩
        · cases hl
      · cases hl
theorem lendA_ok {w0 : Bs} {Rd0 : Nat → Nat → Value → Prop} {e : Env} {h h' : Hp} {w : World} (hs : SR w0 Rd0 e h w) {c c' : AV} {u : Value} (hv : VR (RDx w0 Rd0 e h w) (some e) c u) (hl : lendA h c = some (h', c')) :
    ∃ e', Lent w0 Rd0 e h w e' h' ∧ VR (RDx w0 Rd0 e' h' w) none c' u := by
  cases c with
  | ag cs =>
    simp only [lendA] at hl
    split at hl
    · rename_i h1 cs1 hc1
      simp only [Option.some.injEq, Prod.mk.injEq] at hl
      obtain ⟨rfl, rfl⟩ := hl
      obtain ⟨us, rfl, hlr⟩ := hv.ag_inv
      obtain ⟨e', l, v⟩ := lendCs_ok cs us e h h1 cs1 hs hlr hc1
      exact ⟨e', l, .ag us v.1 v.2⟩
    · cases hl
  | _ => exact lendC_ok hs hv (by simpa only [lendA] using hl)
theorem lendAs_ok {w0 : Bs} {Rd0 : Nat → Nat → Value → Prop} {w : World} : ∀ (cs : List AV) (us : List Value) (e : Env) (h h' : Hp) (cs' : List AV), SR w0 Rd0 e h w → LR (VR (RDx w0 Rd0 e h w) (some e)) cs us → lendAs h cs = some (h', cs') →
    ∃ e', Lent w0 Rd0 e h w e' h' ∧ LR (VR (RDx w0 Rd0 e' h' w) none) cs' us
  | [], us, e, h, h', cs', hs, hv, hl => by
    simp only [lendAs, Option.some.injEq, Prod.mk.injEq] at hl
    obtain ⟨rfl, rfl⟩ := hl
    have : us = [] := List.eq_nil_of_length_eq_zero (by simpa using hv.1)
    subst this
    exact ⟨e, Lent.refl hs, LR.nil⟩
  | c :: cs, us, e, h, h', cs', hs, hv, hl => by
    cases us with
    | nil => have := hv.1; simp at this
    | cons u us =>
      simp only [lendAs] at hl
      split at hl
      · rename_i h1 c1 hc1
        split at hl
        · rename_i h2 cs2 hc2
          simp only [Option.some.injEq, Prod.mk.injEq] at hl
          obtain ⟨rfl, rfl⟩ := hl
          obtain ⟨e1, l1, v1⟩ := lendA_ok hs (hv.2 0 c u rfl rfl) hc1
          have hv' : LR (VR (RDx w0 Rd0 e1 h1 w) (some e1)) cs us := ⟨by simpa using hv.1, fun j x y hx hy => ((hv.2 (j + 1) x y (by simpa using hx) (by simpa using hy)).mono l1.rd).envEq rfl l1.blk l1.sv⟩
          obtain ⟨e2, l2, v2⟩ := lendAs_ok cs us e1 h1 h2 cs2 l1.sr hv' hc2
          exact ⟨e2, l1.trans l2, LR.cons (v1.mono l2.rd) v2⟩
        · cases hl
      · cases hl
theorem Ga.lent {w0 : Bs} {Rd0 : Nat → Nat → Value → Prop} {e e' : Env} {a : Act} {w : World} {h' : Hp} (h : Ga w0 Rd0 e st a w) (l : Lent w0 Rd0 e st.h w e' h') : Ga w0 Rd0 e' ⟨st.n, st.t, h'⟩ a w :=
  ⟨h.n, h.d, l.sr, (h.tr.mono l.rd).envEq l.blk l.sv⟩

/-- a piece of a slice -/
def pieceT (tt : Bool) (n h : Nat) : Option Nat → Bool
  | some m => m == h
  | none => tt && h == n
def pieceA (tt : Bool) (rows : List (List AV)) (sz : Nat) (l h : Nat) (m : Option Nat) : AV :=
  .sl (pieceT tt rows.length h m) sz ((rows.take h).drop l)
end
end Go.Proofs.Ytggnolfcgaglfaa
