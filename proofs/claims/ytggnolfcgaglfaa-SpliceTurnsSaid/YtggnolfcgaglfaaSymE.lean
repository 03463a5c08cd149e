/- A frame that is known symbolically; operations that only read. -/
import Derived.Test.YtggnolfcgaglfaaSymD
import Derived.ChangeKeysEq
import Derived.Deep.Quiet
set_option linter.unusedVariables false
set_option linter.unusedSimpArgs false
namespace Go.Proofs.Ytggnolfcgaglfaa
open Go Go.RowKit

structure Ga (w0 : Bs) (Rd0 : Nat → Nat → Value → Prop) (e : Env) (st : St) (a : Act) (w : World) : Prop where
  n : a.tmps.size = st.n ∧ st.n ≤ 1000000
  d : a.defers = []
  sr : SR w0 Rd0 e st.h w
  tr : TR (RDx w0 Rd0 e st.h w) e st.t a.tmps

/-- what is known of a constant -/
def cvA : Value → AV
  | .slice none 0 0 => .sl true 0 []
  | x => .v x
def gA (g : Nat) : AV := match gasc gTab g with
  | some (k, l) => .fp (l.map fun x => .v (.int k x))
  | none => .un
def St.ev (s : St) : Operand → AV
  | .tmp i => tget s.t i
  | .const v => cvA v
  | .global g => gA g
  | .func f => .v (.func (.func f) #[] #[])
theorem cvA_ok {Rd : Nat → Nat → Value → Prop} {E : Option Env} (x : Value) : VR Rd E (cvA x) x := by
  unfold cvA
  split
  · exact VR.sl (rows := []) [] (by simp) (by simp) rfl (by simp) (Nat.le_refl _) (Nat.zero_le _) (fun _ => rfl) (by simp)
  · exact .v
theorem Ga.ev {w0 : Bs} {Rd0 : Nat → Nat → Value → Prop} {e : Env} {st : St} {a : Act} {w : World} (h : Ga w0 Rd0 e st a w) (x : Operand) : VR (RDx w0 Rd0 e st.h w) (some e) (st.ev x) (a.eval x) := by
  cases x with
  | tmp i => exact h.tr i
  | const v => exact cvA_ok v
  | global g =>
    simp only [St.ev, gA]
    split
    · rename_i k l hg
      refine VR.fp (o := 0) (l.map fun x => Value.int k x) (by simp) (fun j c u hc hu => ?_) fun j u hu => ?_
      · rw [List.getElem?_map] at hc hu
        cases hx : l[j]? with
        | none => rw [hx] at hc; cases hc
        | some x => rw [hx] at hc hu; cases hc; cases hu; exact .v
      · rw [List.getElem?_map] at hu
        cases hx : l[j]? with
        | none => rw [hx] at hu; cases hu
        | some x =>
          rw [hx] at hu; cases hu
          rw [Nat.zero_add]
          exact h.sr.glob ⟨k, l, x, hg, hx, rfl⟩
    · exact .un
  | func f => exact .v

def aggD : TypeDesc → Bool
  | .struct _ | .array _ _ => true
  | _ => false
/-- the shape of a type: of several cells (a struct, an array)? how many? -/
def tyA (P : Program) (t : TypeId) : Option (Bool × Nat) :=
  match P.underlying t, P.info? t with
  | some d, some i => some (aggD d, i.size)
  | _, _ => none
/-- a slice's element: its type, cells, bytes, zero -/
def elA (P : Program) (t : TypeId) : Option (TypeId × Nat × Nat × List Value) :=
  match P.underlying t with
  | some (.slice e) => match P.info? e with
    | some i => match i.zero with
      | some z => if z.cells.size = i.size then some (e, i.size, i.bytes, z.cells.toList) else none
      | none => none
    | none => none
  | _ => none
/-- an array's length, its element's cells -/
def arA (P : Program) (t : TypeId) : Option (Nat × TypeId × Nat) :=
  match P.underlying t with
  | some (.array n e) => match P.info? e with
    | some i => some (n, e, i.size)
    | none => none
  | _ => none
/-- a field: where it lies, of several cells? how many -/
def fdA (P : Program) (t : TypeId) (f : Nat) : Option (Nat × Bool × Nat) :=
  match P.underlying t with
  | some (.struct fs) => match fs[f]? with
    | some fl => match tyA P fl.type with
      | some (ag, n) => some (fl.offset, ag, n)
      | none => none
    | none => none
  | _ => none

/-- the cells behind a pointer -/
def cellsAt (st : St) (p : AV) (n : Nat) (cs : List AV) : Prop :=
  match p with
  | .pt k o => ∃ t cs0, hget st.h k = some (.box t cs0) ∧ t ≠ itT ∧ o + n ≤ cs0.length ∧ cs = (cs0.drop o).take n
  | .pe k i sz o => (∃ t rows wr r, hget st.h k = some (.arr t sz rows wr) ∧ rows[i]? = some r ∧ o + n ≤ r.length ∧ cs = (r.drop o).take n) ∨
      ∃ t cs0 c, hget st.h k = some (.nr t cs0) ∧ cs0[i]? = some c ∧ sz = 1 ∧ o = 0 ∧ n = 1 ∧ cs = [c]
  | .fp cs0 => n ≤ cs0.length ∧ cs = cs0.take n
  | _ => False

/-- READ: the operation gives what is known to be c, in whatever world is later, and turns nothing -/
def RS (P : Program) (o : Oper) (st : St) (c : AV) : Prop :=
  ∀ w0 Rd0 e a w, Ga w0 Rd0 e st a w → ∃ v, VR (RDx w0 Rd0 e st.h w) (some e) c v ∧ ∀ w', Ext w w' → (execOp a.eval o).run P w' = .ok (.value v) w'

section
variable {P : Program} {st : St} {d : Option Tmp} {ty : TypeId} {pos : String} {af : Array Edge} {gd : Option (Nat × Bool)}

theorem RS.move (x : Operand) : RS P ⟨d, .move x, ty, pos, af, gd⟩ st (st.ev x) := fun w0 Rd0 e a w h =>
  ⟨a.eval x, h.ev x, fun w' _ => by simp [execOp]⟩
theorem RS.assign (x : Operand) : RS P ⟨d, .assign x, ty, pos, af, gd⟩ st (st.ev x) := fun w0 Rd0 e a w h =>
  ⟨a.eval x, h.ev x, fun w' _ => by simp [execOp]⟩
theorem RS.pick (c x y : Operand) (t : Bool) (hc : st.ev c = .v (.bool t)) : RS P ⟨d, .pick c x y, ty, pos, af, gd⟩ st (if t then st.ev x else st.ev y) := fun w0 Rd0 e a w h => by
  have h1 := h.ev c
  rw [hc] at h1
  have h2 := h1.v_inv
  cases t
  · exact ⟨a.eval y, by simpa using h.ev y, fun w' _ => by simp [execOp, h2, asBool]⟩
  · exact ⟨a.eval x, by simpa using h.ev x, fun w' _ => by simp [execOp, h2, asBool]⟩

theorem LR.sub {R : AV → Value → Prop} {cs : List AV} {us : List Value} (h : LR R cs us) (o n : Nat) (hn : o + n ≤ cs.length) : LR R ((cs.drop o).take n) ((us.drop o).take n) ∧ ((us.drop o).take n).length = n := by
  refine ⟨(h.drop o).take n, ?_⟩
  rw [List.length_take, List.length_drop, h.1]
  omega

/-- the cells behind a pointer, as the model has them -/
theorem cellsAt_ok {w0 : Bs} {Rd0 : Nat → Nat → Value → Prop} {e : Env} {a : Act} {w : World} (h : Ga w0 Rd0 e st a w) {p : AV} {n : Nat} {cs : List AV} (hc : cellsAt st p n cs) {v : Value} (hv : VR (RDx w0 Rd0 e st.h w) (some e) p v) :
    ∃ b o us, v = .pointer (some ⟨b, o, none⟩) ∧ us.length = n ∧ LR (VR (RDx w0 Rd0 e st.h w) (some e)) cs us ∧ ∀ (j : Nat) u, us[j]? = some u → w.cell? ⟨b, o + j, none⟩ = some u := by
  cases p with
  | pt k o =>
    obtain ⟨t, cs0, hk, hti, hn, rfl⟩ := hc
    cases hv with
    | pt hb =>
      obtain ⟨_, b1, us, hb1, hus, hlr⟩ := h.sr.ob _ _ hk
      obtain rfl := Option.some.inj (hb1.symm.trans hb)
      have hs := hlr.sub o n hn
      refine ⟨b1, o, _, rfl, hs.2, hs.1, fun j u hj => ?_⟩
      rw [cell_of_row w b1 (o + j) us.toArray t (0, 0) (hus.cells hti)]
      rw [List.getElem?_take] at hj
      split at hj
      · rw [List.getElem?_drop] at hj; simpa using hj
      · cases hj
  | pe k i sz o =>
    rcases hc with hc | ⟨t, cs0, c, hk, hc, rfl, rfl, rfl, rfl⟩
    case inr =>
      cases hv with
      | pe hb =>
        obtain ⟨_, hrow⟩ := h.sr.ob _ _ hk
        rcases hrow with ⟨_, hbn, _⟩ | ⟨b1, cap, cur, hb1, hsv, hcap, hm, hcur, hcs, hlr⟩
        · rw [hbn] at hb; cases hb
        obtain rfl := Option.some.inj (hb1.symm.trans hb)
        obtain ⟨u, hu, hvu⟩ := hlr.get hc
        have hi : i < cs0.length := (List.getElem?_eq_some_iff.1 hc).1
        refine ⟨b1, i * 1 + 0, [u], rfl, rfl, LR.cons hvu LR.nil, fun j u' hj => ?_⟩
        cases j with
        | zero =>
          simp at hj; subst hj
          rw [cell_of_row w b1 _ cur t (0, 0) hcur]
          rw [List.getElem?_take, if_pos hi] at hu
          simpa using hu
        | succ j => simp at hj
    obtain ⟨t, rows, wr, r, hk, hr, hn, rfl⟩ := hc
    cases hv with
    | pe hb =>
      obtain ⟨hw, h1c, _, hrow⟩ := h.sr.ob _ _ hk
      rcases hrow with ⟨_, hbn, _⟩ | ⟨b1, cap, cur, hb1, hsv, hcap, hm, hcur, hcs, hlr, hle⟩
      · rw [hbn] at hb; cases hb
      obtain rfl := Option.some.inj (hb1.symm.trans hb)
      have hrl : r.length = sz := hw r (List.mem_of_getElem? hr)
      have hin : i < rows.length := (List.getElem?_eq_some_iff.1 hr).1
      have hfl : (rows.flatten.drop (i * sz)).take sz = r := by
        have : ∀ (rows : List (List AV)) (i : Nat), (∀ r ∈ rows, r.length = sz) → rows[i]? = some r → (rows.flatten.drop (i * sz)).take sz = r := by
          intro rows
          induction rows with
          | nil => intro i _ hh; simp at hh
          | cons x rows ih =>
            intro i hw hh
            have hx : x.length = sz := hw x (by simp)
            cases i with
            | zero =>
              simp at hh
              subst hh
              simp only [Nat.zero_mul, List.drop_zero, List.flatten_cons]
              exact List.take_left' hx
            | succ i =>
              rw [List.flatten_cons, Nat.add_mul, Nat.one_mul, Nat.add_comm, ← hx, List.drop_length_add_append]
              rw [hx]
              exact ih i (fun r hr => hw r (by simp [hr])) (by simpa using hh)
        exact this rows i hw hr
      have hsub : ((rows.flatten.drop (i * sz + o)).take n) = (r.drop o).take n := by
        rw [← hfl, ← List.drop_drop, List.drop_take, List.take_take]
        congr 1
        omega
      have hlen : i * sz + o + n ≤ rows.flatten.length := by
        rw [flatten_len hw]
        have : (i + 1) * sz ≤ rows.length * sz := Nat.mul_le_mul_right _ hin
        rw [Nat.add_mul] at this
        omega
      have hs := hlr.sub (i * sz + o) n hlen
      rw [hsub] at hs
      refine ⟨b1, i * sz + o, _, rfl, hs.2, hs.1.imp fun _ _ hv => hv.some_of_none, fun j u hj => ?_⟩
      rw [cell_of_row w b1 _ cur t (0, 0) hcur]
      rw [List.getElem?_take] at hj
      split at hj
      · rw [List.getElem?_drop, List.getElem?_take] at hj
        split at hj
        · simpa using hj
        · cases hj
      · cases hj
  | fp cs0 =>
    obtain ⟨hn, rfl⟩ := hc
    cases hv with
    | fp us hl hcc ha =>
      have hlr : LR (VR (RDx w0 Rd0 e st.h w) none) cs0 us := ⟨hl, hcc⟩
      refine ⟨_, _, us.take n, rfl, by rw [List.length_take, hl]; omega, (hlr.take n).imp fun _ _ hv => hv.some_of_none, fun j u hj => ?_⟩
      rw [List.getElem?_take] at hj
      split at hj
      · exact (ha j u hj).1
      · cases hj
  | un => exact hc.elim
  | v x => exact hc.elim
  | sl tt sz rows => exact hc.elim
  | ow k => exact hc.elim
  | ag cs => exact hc.elim
  | tu vs => exact hc.elim
  | mp k => exact hc.elim
  | sw => exact hc.elim
  | cl fn fs cs => exact hc.elim

theorem run_isAgg {t : TypeId} {td : TypeDesc} (w : World) (h : P.underlying t = some td) : (isAgg t).run P w = .ok (aggD td) w := by
  simp only [isAgg, Sem.run_bind, run_underlying h, Result.andThen_ok]
  cases td <;> simp [aggD]
theorem run_sizeOf' {t : TypeId} {i : TypeInfo} (w : World) (h : P.info? t = some i) : (sizeOf t).run P w = .ok i.size w := by
  simp [sizeOf, typeInfo, h]
theorem tyA_parts {t : TypeId} {ag : Bool} {n : Nat} (h : tyA P t = some (ag, n)) : ∃ td i, P.underlying t = some td ∧ P.info? t = some i ∧ ag = aggD td ∧ n = i.size := by
  unfold tyA at h
  split at h
  · rename_i td i h1 h2
    simp only [Option.some.injEq, Prod.mk.injEq] at h
    exact ⟨td, i, h1, h2, h.1.symm, h.2.symm⟩
  · cases h
theorem run_loadVar' {t : TypeId} {ag : Bool} {n : Nat} (ht : tyA P t = some (ag, n)) {b o : Nat} {us : List Value} {w : World} (hl : us.length = n) (hc : ∀ (j : Nat) u, us[j]? = some u → w.cell? ⟨b, o + j, none⟩ = some u) :
    (ag = true → (loadVar t ⟨b, o, none⟩).run P w = .ok (.agg us.toArray) w) ∧ (ag = false → ∀ u, us = [u] → (loadVar t ⟨b, o, none⟩).run P w = .ok u w) := by
  obtain ⟨td, i, h1, h2, rfl, rfl⟩ := tyA_parts ht
  refine ⟨fun hag => ?_, fun hag u hu => ?_⟩
  · have := run_loadCells_list (P := P) w ⟨b, o, none⟩ us (fun j u hj => by rw [Addr.add_lit]; exact hc j u hj)
    rw [hl] at this
    simp only [loadVar, Sem.run_bind, run_isAgg w h1, Result.andThen_ok, hag, if_true, run_sizeOf' w h2, this, Sem.run_pure]
  · subst hu
    have := hc 0 u rfl
    simp only [Nat.add_zero] at this
    simp only [loadVar, Sem.run_bind, run_isAgg w h1, Result.andThen_ok, hag, Bool.false_eq_true, if_false]
    simp [load, Sem.run, this]

/-- LOAD -/
theorem RS.load {t : TypeId} {x : Operand} {ag : Bool} {n : Nat} {cs : List AV} {c : AV} (ht : tyA P t = some (ag, n)) (hc : cellsAt st (st.ev x) n cs) (hr : (ag = true ∧ c = .ag cs) ∨ (ag = false ∧ cs = [c])) :
    RS P ⟨d, .load t x, ty, pos, af, gd⟩ st c := fun w0 Rd0 e a w h => by
  obtain ⟨b, o, us, hv, hl, hlr, hcell⟩ := cellsAt_ok h hc (h.ev x)
  have hrun := fun (w' : World) (hx : Ext w w') => run_loadVar' (P := P) ht (b := b) (o := o) (us := us) (w := w') hl (fun j u hj => hx.cell (hcell j u hj))
  rcases hr with ⟨hag, rfl⟩ | ⟨hag, rfl⟩
  · refine ⟨.agg us.toArray, .ag us hlr.1 hlr.2, fun w' hx => ?_⟩
    have := (hrun w' hx).1 hag
    simp [execOp, Instr.loadAt, Instr.sureAddr, hv, this]
  · obtain ⟨u, rfl⟩ : ∃ u, us = [u] := by
      match us, hlr.1 with
      | [u], _ => exact ⟨u, rfl⟩
    refine ⟨u, hlr.2 0 c u rfl rfl, fun w' hx => ?_⟩
    have := (hrun w' hx).2 hag u rfl
    simp [execOp, Instr.loadAt, Instr.sureAddr, hv, this]

/-- the pointer to a field -/
def fieldP (p : AV) (off : Nat) : Option AV :=
  match p with
  | .pt k o => some (.pt k (o + off))
  | .pe k i sz o => some (.pe k i sz (o + off))
  | .fp cs => some (.fp (cs.drop off))
  | _ => none
theorem fieldP_ok {w0 : Bs} {Rd0 : Nat → Nat → Value → Prop} {e : Env} {hp : Hp} {w : World} {p q : AV} {off : Nat} (hq : fieldP p off = some q) {v : Value} (hv : VR (RDx w0 Rd0 e hp w) (some e) p v) :
    ∃ b o, v = .pointer (some ⟨b, o, none⟩) ∧ VR (RDx w0 Rd0 e hp w) (some e) q (.pointer (some ⟨b, o + off, none⟩)) := by
  cases hv with
  | pt hb => simp only [fieldP, Option.some.injEq] at hq; subst hq; exact ⟨_, _, rfl, .pt hb⟩
  | pe hb =>
    simp only [fieldP, Option.some.injEq] at hq; subst hq
    refine ⟨_, _, rfl, ?_⟩
    rw [Nat.add_assoc]
    exact .pe hb
  | fp us hl hc ha =>
    simp only [fieldP, Option.some.injEq] at hq; subst hq
    refine ⟨_, _, rfl, .fp (us.drop off) (by simp [hl]) (fun j c u h1 h2 => ?_) (fun j u hj => ?_)⟩
    · rw [List.getElem?_drop] at h1 h2; exact hc _ c u h1 h2
    · rw [List.getElem?_drop] at hj
      rw [Nat.add_assoc]
      exact ha _ u hj
  | un => simp [fieldP] at hq
  | v => simp [fieldP] at hq
  | sl => simp [fieldP] at hq
  | ow => simp [fieldP] at hq
  | sw => simp [fieldP] at hq
  | ag => simp [fieldP] at hq
  | tu => simp [fieldP] at hq
  | mp => simp [fieldP] at hq
  | cl => simp [fieldP] at hq

theorem RS.fieldAddr {t : TypeId} {x : Operand} {f off n : Nat} {ag : Bool} {q : AV} (ht : fdA P t f = some (off, ag, n)) (hn : n ≠ 0) (hq : fieldP (st.ev x) off = some q) :
    RS P ⟨d, .fieldAddr t x f, ty, pos, af, gd⟩ st q := fun w0 Rd0 e a w h => by
  obtain ⟨b, o, hv, hvq⟩ := fieldP_ok hq (h.ev x)
  refine ⟨_, hvq, fun w' hx => ?_⟩
  unfold fdA at ht
  split at ht
  · rename_i fs h1
    split at ht
    · rename_i fl h2
      split at ht
      · rename_i ag' n' h3
        simp only [Option.some.injEq, Prod.mk.injEq] at ht
        obtain ⟨rfl, rfl, rfl⟩ := ht
        obtain ⟨td, i, h4, h5, _, rfl⟩ := tyA_parts h3
        have hadd : (⟨b, o, none⟩ : Addr).add fl.offset = ⟨b, o + fl.offset, none⟩ := Addr.add_lit ..
        simp [execOp, Instr.fieldAt, run_underlying h1, h2, hv, Instr.sureAddr, fieldPlace, run_sizeOf' w' h5, hn, hadd]
      · cases ht
    · cases ht
  · cases ht

/-- the pointer to an element -/
theorem elA_parts {t E : TypeId} {sz by_ : Nat} {z : List Value} (h : elA P t = some (E, sz, by_, z)) : ∃ i zv, P.underlying t = some (.slice E) ∧ P.info? E = some i ∧ i.zero = some zv ∧ zv.cells.size = sz ∧ i.size = sz ∧ i.bytes = by_ ∧ zv.cells.toList = z := by
  unfold elA at h
  split at h
  · rename_i E' h1
    split at h
    · rename_i i h2
      split at h
      · rename_i zv h3
        split at h
        · rename_i h4
          simp only [Option.some.injEq, Prod.mk.injEq] at h
          obtain ⟨rfl, rfl, rfl, rfl⟩ := h
          exact ⟨i, zv, h1, h2, h3, h4, rfl, rfl, rfl⟩
        · cases h
      · cases h
    · cases h
  · cases h
theorem arA_parts {t E : TypeId} {n sz : Nat} (h : arA P t = some (n, E, sz)) : ∃ i, P.underlying t = some (.array n E) ∧ P.info? E = some i ∧ i.size = sz := by
  unfold arA at h
  split at h
  · rename_i n' E' h1
    split at h
    · rename_i i h2
      simp only [Option.some.injEq, Prod.mk.injEq] at h
      obtain ⟨rfl, rfl, rfl⟩ := h
      exact ⟨i, h1, h2, rfl⟩
    · cases h
  · cases h

theorem RS.indexSl {t E : TypeId} {x y : Operand} {sz by_ : Nat} {z : List Value} {tt : Bool} {rows : List (List AV)} {k : IntKind} {i : Int} {r : List AV}
    (ht : elA P t = some (E, sz, by_, z)) (hx : st.ev x = .sl tt sz rows) (hy : st.ev y = .v (.int k i)) (h0 : 0 ≤ i) (hr : rows[i.toNat]? = some r) (hpos : 0 < sz) :
    RS P ⟨d, .indexAddr t x y, ty, pos, af, gd⟩ st (.fp r) := fun w0 Rd0 e a w h => by
  obtain ⟨inf, zv, h1, h2, h3, h4, rfl, _, _⟩ := elA_parts ht
  have hvx := h.ev x
  rw [hx] at hvx
  have hvy := h.ev y
  rw [hy] at hvy
  have hvy := hvy.v_inv
  obtain ⟨ad, cap, us, hav, hw, h1c, hlr, hcap, hm, _, ha⟩ := hvx.sl_inv
  have hin : i.toNat < rows.length := (List.getElem?_eq_some_iff.1 hr).1
  have hrl : r.length = inf.size := hw r (List.mem_of_getElem? hr)
  have hfl : (rows.flatten.drop (i.toNat * inf.size)).take inf.size = r := by
    have : ∀ (rows : List (List AV)) (i : Nat), (∀ r ∈ rows, r.length = inf.size) → rows[i]? = some r → (rows.flatten.drop (i * inf.size)).take inf.size = r := by
      intro rows
      induction rows with
      | nil => intro i _ hh; simp at hh
      | cons x rows ih =>
        intro i hw hh
        have hx : x.length = inf.size := hw x (by simp)
        cases i with
        | zero =>
          simp at hh
          subst hh
          simp only [Nat.zero_mul, List.drop_zero, List.flatten_cons]
          exact List.take_left' hx
        | succ i =>
          rw [List.flatten_cons, Nat.add_mul, Nat.one_mul, Nat.add_comm, ← hx, List.drop_length_add_append]
          rw [hx]
          exact ih i (fun r hr => hw r (by simp [hr])) (by simpa using hh)
    exact this rows i.toNat hw hr
  have hlen : i.toNat * inf.size + inf.size ≤ rows.flatten.length := by
    rw [flatten_len hw]
    have : (i.toNat + 1) * inf.size ≤ rows.length * inf.size := Nat.mul_le_mul_right _ hin
    rw [Nat.add_mul] at this
    omega
  have hne : us ≠ [] := by
    intro hh
    have := hlr.1
    rw [hh] at this
    simp only [List.length_nil] at this
    omega
  obtain ⟨b, o, rfl, hcell⟩ := ha hne
  have hs := hlr.sub (i.toNat * inf.size) inf.size hlen
  rw [hfl] at hs
  refine ⟨.pointer (some ⟨b, o + i.toNat * inf.size, none⟩), .fp _ hs.1.1 hs.1.2 (fun j u hj => ?_), fun w' hxx => ?_⟩
  · rw [List.getElem?_take] at hj
    split at hj
    · rw [List.getElem?_drop] at hj
      rw [Nat.add_assoc]
      exact hcell _ u hj
    · cases hj
  · have hadd : (⟨b, o, none⟩ : Addr).add (i.toNat * inf.size) = ⟨b, o + i.toNat * inf.size, none⟩ := Addr.add_lit ..
    have hlt : i < (rows.length : Int) := by omega
    simp [execOp, Instr.indexAt, hvy, asIntOf, run_underlying h1, hav, h0, hlt, run_sizeOf' w' h2, hadd]

theorem RS.indexOw {t E : TypeId} {x y : Operand} {sz by_ : Nat} {z : List Value} {rows : List (List AV)} {wr : Bool} {k : IntKind} {i : Int} {kk : Nat}
    (ht : elA P t = some (E, sz, by_, z)) (hx : st.ev x = .ow kk) (hk : hget st.h kk = some (.arr E sz rows wr)) (hy : st.ev y = .v (.int k i)) (h0 : 0 ≤ i) (h1 : i < rows.length) :
    RS P ⟨d, .indexAddr t x y, ty, pos, af, gd⟩ st (.pe kk i.toNat sz 0) := fun w0 Rd0 e a w h => by
  obtain ⟨inf, zv, h1', h2, h3, h4, rfl, _, _⟩ := elA_parts ht
  have hvx := h.ev x
  rw [hx] at hvx
  have hvy := h.ev y
  rw [hy] at hvy
  have hvy := hvy.v_inv
  obtain ⟨hw, h1c, _, hrow⟩ := h.sr.ob _ _ hk
  rcases hrow with ⟨hnil, hbn, _⟩ | ⟨b1, cap, cur, hb1, hsv, hcap, hm, hcur, hcs, hlr, hle⟩
  · subst hnil; simp at h1; omega
  have hav : a.eval x = .slice (some ⟨b1, 0, none⟩) rows.length cap := by
    generalize hax : a.eval x = u at hvx
    cases hvx with
    | ow => exact hsv
  refine ⟨.pointer (some ⟨b1, i.toNat * inf.size + 0, none⟩), .pe hb1, fun w' hxx => ?_⟩
  have hadd : (⟨b1, 0, none⟩ : Addr).add (i.toNat * inf.size) = ⟨b1, i.toNat * inf.size, none⟩ := by rw [Addr.add_lit, Nat.zero_add]
  simp [execOp, Instr.indexAt, hvy, asIntOf, run_underlying h1', hav, h0, h1, run_sizeOf' w' h2, hadd]

/-- an element of an array in a block -/
theorem RS.indexArr {t E : TypeId} {x y : Operand} {n sz : Nat} {k : IntKind} {i : Int} {q : AV}
    (ht : arA P t = some (n, E, sz)) (hy : st.ev y = .v (.int k i)) (h0 : 0 ≤ i) (h1 : i < n) (hq : fieldP (st.ev x) (i.toNat * sz) = some q) :
    RS P ⟨d, .indexAddr t x y, ty, pos, af, gd⟩ st q := fun w0 Rd0 e a w h => by
  obtain ⟨inf, h1', h2, rfl⟩ := arA_parts ht
  have hvy := h.ev y
  rw [hy] at hvy
  have hvy := hvy.v_inv
  obtain ⟨b, o, hv, hvq⟩ := fieldP_ok hq (h.ev x)
  refine ⟨_, hvq, fun w' hxx => ?_⟩
  have hadd : (⟨b, o, none⟩ : Addr).add (i.toNat * inf.size) = ⟨b, o + i.toNat * inf.size, none⟩ := Addr.add_lit ..
  simp [execOp, Instr.indexAt, hvy, asIntOf, run_underlying h1', hv, Instr.sureAddr, h0, h1, run_sizeOf' w' h2, hadd]

/-- the length of a slice -/
def lenA (st : St) : AV → Option Nat
  | .sl _ _ rows => some rows.length
  | .sw _ _ n _ => some n
  | .ow k => match hget st.h k with
    | some (.arr _ _ rows _) => some rows.length
    | _ => none
  | _ => none
theorem lenA_ok {w0 : Bs} {Rd0 : Nat → Nat → Value → Prop} {e : Env} {a : Act} {w : World} (h : Ga w0 Rd0 e st a w) {c : AV} {n : Nat} (hn : lenA st c = some n) {v : Value} (hv : VR (RDx w0 Rd0 e st.h w) (some e) c v) : ∃ ad cap, v = .slice ad n cap := by
  cases hv with
  | sl us hw h1c hl hc h1 h2 h3 ha => simp only [lenA, Option.some.injEq] at hn; subst hn; exact ⟨_, _, rfl⟩
  | @ow e k =>
    simp only [lenA] at hn
    split at hn
    · rename_i t sz rows wr hk
      simp only [Option.some.injEq] at hn
      subst hn
      obtain ⟨_, _, _, hrow⟩ := h.sr.ob _ _ hk
      rcases hrow with ⟨hnil, _, a, ha⟩ | ⟨b1, cap, cur, hb1, hsv, _⟩
      · subst hnil; exact ⟨a, 0, ha⟩
      · exact ⟨_, cap, hsv⟩
    · cases hn
  | un => simp [lenA] at hn
  | v => simp [lenA] at hn
  | pt => simp [lenA] at hn
  | pe => simp [lenA] at hn
  | sw => simp only [lenA, Option.some.injEq] at hn; subst hn; exact ⟨_, _, rfl⟩
  | fp => simp [lenA] at hn
  | ag => simp [lenA] at hn
  | tu => simp [lenA] at hn
  | mp => simp [lenA] at hn
  | cl => simp [lenA] at hn
def slT (P : Program) (t : TypeId) : Bool := match P.underlying t with | some (.slice _) => true | _ => false
theorem RS.len {t : TypeId} {x : Operand} {ts : Array TypeId} {n : Nat} (hu : slT P t = true) (hts : ts[0]? = some t) (hn : lenA st (st.ev x) = some n) :
    RS P ⟨d, .call ⟨.builtin .len, #[x], ts⟩, ty, pos, af, gd⟩ st (.v (.int .i64 n)) := fun w0 Rd0 e a w h => by
  obtain ⟨ad, cap, hv⟩ := lenA_ok h hn (h.ev x)
  refine ⟨_, .v, fun w' _ => ?_⟩
  unfold slT at hu
  split at hu
  · rename_i E h1
    simp [execOp, resolve, invoke, builtin, Builtin.len_, hts, run_underlying h1, hv, goInt]
  · cases hu

/-- several results, one of them -/
theorem RS.extract {x : Operand} {i : Nat} {vs : List AV} {c : AV} (hx : st.ev x = .tu vs) (hc : vs[i]? = some c) : RS P ⟨d, .extract x i, ty, pos, af, gd⟩ st c := fun w0 Rd0 e a w h => by
  have hv := h.ev x
  rw [hx] at hv
  obtain ⟨us, hau, hlr⟩ := hv.tu_inv
  obtain ⟨u, hu, hr⟩ := hlr.get hc
  exact ⟨u, hr, fun w' _ => by simp [execOp, Instr.extract, hau, hu]⟩

/-- a struct's field, of a value -/
theorem RS.field {t : TypeId} {x : Operand} {f off n : Nat} {ag : Bool} {cs : List AV} {c : AV} (ht : fdA P t f = some (off, ag, n)) (hx : st.ev x = .ag cs) (hn : off + n ≤ cs.length)
    (hr : (ag = true ∧ c = .ag ((cs.drop off).take n)) ∨ (ag = false ∧ cs[off]? = some c)) : RS P ⟨d, .field t x f, ty, pos, af, gd⟩ st c := fun w0 Rd0 e a w h => by
  have hv := h.ev x
  rw [hx] at hv
  obtain ⟨us, hau, hlr⟩ := hv.ag_inv
  unfold fdA at ht
  split at ht
  · rename_i fs h1
    split at ht
    · rename_i fl h2
      split at ht
      · rename_i ag' n' h3
        simp only [Option.some.injEq, Prod.mk.injEq] at ht
        obtain ⟨rfl, rfl, rfl⟩ := ht
        obtain ⟨td, i, h4, h5, hag, rfl⟩ := tyA_parts h3
        rcases hr with ⟨ha, rfl⟩ | ⟨ha, hc⟩
        · have hs := hlr.sub fl.offset i.size hn
          refine ⟨.agg ((us.drop fl.offset).take i.size).toArray, .ag _ hs.1.1 hs.1.2, fun w' _ => ?_⟩
          rw [ha] at hag
          have e1 : us.toArray.extract fl.offset (fl.offset + i.size) = ((us.drop fl.offset).take i.size).toArray := by
            simp [List.extract_eq_drop_take']
          simp [execOp, Instr.field, run_underlying h1, h2, hau, asAgg, part, run_isAgg w' h4, ← hag, run_sizeOf' w' h5, e1]
        · obtain ⟨u, hu, hru⟩ := hlr.get hc
          refine ⟨u, hru, fun w' _ => ?_⟩
          rw [ha] at hag
          simp [execOp, Instr.field, run_underlying h1, h2, hau, asAgg, part, run_isAgg w' h4, ← hag, hu]
      · cases ht
    · cases ht
  · cases ht

/-- arithmetic, comparisons: all operands are plain values -/
def AV.val : AV → Value
  | .v x => x
  | _ => undef
def AV.isV : AV → Bool
  | .v _ => true
  | _ => false
def St.rho (st : St) (x : Operand) : Value := (st.ev x).val
theorem RS.pure {op : Op} {z : Value} (hv : ∀ x ∈ op.operands, (st.ev x).isV = true) (hs : ∀ cs b, op ≠ .select cs b) (hrun : ∀ w, (execOp st.rho ⟨d, op, ty, pos, af, gd⟩).run P w = .ok (.value z) w) :
    RS P ⟨d, op, ty, pos, af, gd⟩ st (.v z) := fun w0 Rd0 e a w h => by
  refine ⟨z, .v, fun w' _ => ?_⟩
  have : execOp a.eval ⟨d, op, ty, pos, af, gd⟩ = execOp st.rho ⟨d, op, ty, pos, af, gd⟩ := by
    refine execOp_congr _ hs fun x hx => ?_
    have hx' := hv x hx
    have hvx := h.ev x
    unfold St.rho
    generalize st.ev x = c at hx' hvx ⊢
    cases c with
    | v y => exact hvx.v_inv
    | _ => simp [AV.isV] at hx'
  rw [this]
  exact hrun w'
end
end Go.Proofs.Ytggnolfcgaglfaa
