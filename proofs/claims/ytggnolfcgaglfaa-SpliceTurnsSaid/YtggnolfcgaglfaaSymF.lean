/- Operations that make memory, or write it. -/
import Derived.Test.YtggnolfcgaglfaaSymE
set_option linter.unusedVariables false
set_option linter.unusedSimpArgs false
namespace Go.Proofs.Ytggnolfcgaglfaa
open Go Go.RowKit

/-- STEP: behind the operation the frame is known as one of K -/
def SS (P : Program) (o : Oper) (st : St) (K : St → Prop) : Prop :=
  ∀ w0 Rd0 e a w next Q, Ga w0 Rd0 e st a w → (∀ st', K st' → ∀ e' a' w', Ga w0 Rd0 e' st' a' w' → next a' w') → o.wp P a w next Q

section
variable {P : Program} {st : St} {d : Nat} {ty : TypeId} {pos : String} {af : Array Edge} {gd : Option (Nat × Bool)} {K : St → Prop}

theorem wp_value {o : Oper} {a : Act} {w w' : World} {v : Value} {next : Act → World → Prop} {Q : Exit → Act → World → Prop} (hr : (execOp a.eval o).run P w = .ok (.value v) w') (h : next (a.put o.dst v) w') : o.wp P a w next Q := by
  unfold Oper.wp; rw [hr]; exact h
theorem wp_none {o : Oper} {a : Act} {w w' : World} {next : Act → World → Prop} {Q : Exit → Act → World → Prop} (hr : (execOp a.eval o).run P w = .ok .skip w') (h : next (a.put o.dst undef) w') : o.wp P a w next Q := by
  unfold Oper.wp; rw [hr]; exact h

theorem Ga.put {w0 : Bs} {Rd0 : Nat → Nat → Value → Prop} {e : Env} {a : Act} {w : World} (h : Ga w0 Rd0 e st a w) {c : AV} {v : Value} (hd : d < st.n) (hv : VR (RDx w0 Rd0 e st.h w) (some e) c v) :
    Ga w0 Rd0 e ⟨st.n, (d, c) :: st.t, st.h⟩ (a.put (some d) v) w :=
  ⟨by simpa [Act.put] using h.n, h.d, h.sr, h.tr.put (by rw [h.n.1]; exact hd) hv⟩

theorem SS.read {op : Op} {c : AV} (hr : RS P ⟨some d, op, ty, pos, af, gd⟩ st c) (hd : d < st.n) (hK : K ⟨st.n, (d, c) :: st.t, st.h⟩) : SS P ⟨some d, op, ty, pos, af, gd⟩ st K := by
  intro w0 Rd0 e a w next Q h hn
  obtain ⟨v, hv, hrun⟩ := hr w0 Rd0 e a w h
  exact wp_value (hrun w (Ext.refl w)) (hn _ hK _ _ _ (h.put hd hv))

/-- the cells of a value -/
def cellsOf : AV → Option (List AV)
  | .ag cs => some cs
  | c => if c.one then some [c] else none
theorem oneCell_cells {u : Value} (h : u.oneCell' = true) : u.cells = #[u] := by
  cases u <;> simp_all [Value.oneCell', Value.cells]
theorem cellsOf_ok {Rd : Nat → Nat → Value → Prop} {e : Env} {c : AV} {cs : List AV} {u : Value} (hc : cellsOf c = some cs) (hv : VR Rd (some e) c u) (hs : ∀ k, c = .ow k → (e.sv k).oneCell' = true) :
    ∃ us, u.cells = us.toArray ∧ LR (VR Rd (some e)) cs us := by
  cases c with
  | ag cs' =>
    simp only [cellsOf, Option.some.injEq] at hc
    subst hc
    obtain ⟨us, rfl, hlr⟩ := hv.ag_inv
    exact ⟨us, rfl, hlr⟩
  | _ =>
    simp only [cellsOf] at hc
    split at hc
    · rename_i h1
      simp only [Option.some.injEq] at hc
      subst hc
      have := hv.oneCell h1 (fun e' k he hk => by cases he; exact hs k hk)
      exact ⟨[u], by rw [oneCell_cells this], LR.cons hv LR.nil⟩
    · cases hc
theorem Ga.svOne {w0 : Bs} {Rd0 : Nat → Nat → Value → Prop} {e : Env} {a : Act} {w : World} (h : Ga w0 Rd0 e st a w) {k : Nat} (hk : (match hget st.h k with | some (.arr ..) => true | _ => false) = true) : (e.sv k).oneCell' = true := by
  split at hk
  · rename_i t sz rows wr hg
    obtain ⟨_, _, _, hrow⟩ := h.sr.ob _ _ hg
    rcases hrow with ⟨_, _, a, ha⟩ | ⟨b1, cap, cur, hb1, hsv, _⟩
    · rw [ha]; rfl
    · rw [hsv]; rfl
  · cases hk
/-- an object's slice is one: asked of each that is stored -/
def owOk (h : Hp) : AV → Bool
  | .ow k => match hget h k with | some (.arr ..) => true | _ => false
  | _ => true
theorem Ga.owOk {w0 : Bs} {Rd0 : Nat → Nat → Value → Prop} {e : Env} {a : Act} {w : World} (h : Ga w0 Rd0 e st a w) {c : AV} (hc : owOk st.h c = true) : ∀ k, c = .ow k → (e.sv k).oneCell' = true := by
  rintro k rfl
  exact h.svOne hc

/-- a new block, and a pointer to it -/
theorem Ga.new {w0 : Bs} {Rd0 : Nat → Nat → Value → Prop} {e : Env} {a : Act} {w : World} (h : Ga w0 Rd0 e st a w) (hd : d < st.n) (t : TypeId) (hti : t ≠ itT) {cs : List AV} {us : List Value} (hl : LR (VR (RDx w0 Rd0 e st.h w) (some e)) cs us) :
    ∃ e', Ga w0 Rd0 e' ⟨st.n, (d, .pt d 0) :: tkill d st.t, (d, some (.box t (cs.map (AV.kill d)))) :: hkill d st.h⟩ (a.put (some d) (.pointer (some ⟨w.heap.size, 0, none⟩))) (w.alloc (.cells us.toArray t)) := by
  obtain ⟨hs1, hR1⟩ := h.sr.kill d
  obtain ⟨hs2, hR2⟩ := hs1.newBox d t hti ((hl.imp fun _ _ hv => hv.mono hR1).kill d) (hnom_kill d st.h) (by have := h.n.2; omega) (mentL_kill d cs)
  refine ⟨_, ⟨by simpa [Act.put] using h.n, h.d, hs2, TR.put ?_ (by rw [h.n.1]; exact hd) (.pt Env.upd_blk)⟩⟩
  exact (((h.tr.kill d).mono hR1).mono hR2).env d (tnom_kill d st.t) (fun _ hi => Env.upd_blk' hi) (fun _ hi => Env.upd_sv' hi)

theorem SS.box {t : TypeId} {x : Operand} {cs : List AV} (hti : t ≠ itT) (hc : cellsOf (st.ev x) = some cs) (ho : owOk st.h (st.ev x) = true) (hd : d < st.n)
    (hK : K ⟨st.n, (d, .pt d 0) :: tkill d st.t, (d, some (.box t (cs.map (AV.kill d)))) :: hkill d st.h⟩) : SS P ⟨some d, .box t x, ty, pos, af, gd⟩ st K := by
  intro w0 Rd0 e a w next Q h hn
  obtain ⟨us, hu, hlr⟩ := cellsOf_ok hc (h.ev x) (h.owOk ho)
  obtain ⟨e', hg⟩ := h.new hd t hti hlr
  refine wp_value (v := .pointer (some ⟨w.heap.size, 0, none⟩)) (w' := w.alloc (.cells us.toArray t)) ?_ (hn _ hK _ _ _ hg)
  simp [execOp, Instr.box, newVar, newRow, newObj, hu, Sem.run]

def zeroA (P : Program) (t : TypeId) : Option (List Value) := (P.info? t).bind fun i => i.zero.map fun z => z.cells.toList
theorem cvA_list {Rd : Nat → Nat → Value → Prop} {E : Option Env} (us : List Value) : LR (VR Rd E) (us.map cvA) us :=
  ⟨by simp, fun j c u h1 h2 => by
    rw [List.getElem?_map, h2] at h1
    simp at h1
    subst h1
    exact cvA_ok u⟩
theorem SS.alloc {t : TypeId} {z : List Value} (hti : t ≠ itT) (hz : zeroA P t = some z) (hd : d < st.n)
    (hK : K ⟨st.n, (d, .pt d 0) :: tkill d st.t, (d, some (.box t ((z.map cvA).map (AV.kill d)))) :: hkill d st.h⟩) : SS P ⟨some d, .alloc t, ty, pos, af, gd⟩ st K := by
  intro w0 Rd0 e a w next Q h hn
  obtain ⟨e', hg⟩ := h.new hd t hti (cvA_list z)
  unfold zeroA at hz
  obtain ⟨i, hi, hz⟩ := Option.bind_eq_some_iff.1 hz
  obtain ⟨zv, hzv, rfl⟩ := Option.map_eq_some_iff.1 hz
  refine wp_value (v := .pointer (some ⟨w.heap.size, 0, none⟩)) (w' := w.alloc (.cells zv.cells.toList.toArray t)) ?_ (hn _ hK _ _ _ hg)
  simp [execOp, Instr.alloc, zeroValue, typeInfo, hi, hzv, newVar, newRow, newObj, Sem.run]

/-- cells, one after the other, into a list -/
def setCells (cs : List AV) (o : Nat) : List AV → List AV
  | [] => cs
  | x :: xs => setCells (cs.set o x) (o + 1) xs
theorem setCells_length : ∀ (xs cs : List AV) (o : Nat), (setCells cs o xs).length = cs.length
  | [], _, _ => rfl
  | x :: xs, cs, o => by rw [setCells, setCells_length xs]; simp

theorem TR.envEq {Rd : Nat → Nat → Value → Prop} {e e' : Env} {t : List (Nat × AV)} {tm : Array Value} (h : TR Rd e t tm) (hb : ∀ j, e'.blk j = e.blk j) (hs : ∀ j, e'.sv j = e.sv j) : TR Rd e' t tm := fun i => (h i).envEq rfl hb hs

/-- stores into a block, one after the other -/
theorem Ga.storeBox {w0 : Bs} {Rd0 : Nat → Nat → Value → Prop} {k b : Nat} {t : TypeId} (hti : t ≠ itT) : ∀ (xs : List AV) (us : List Value) (o : Nat) {st : St} {e : Env} {a : Act} {w : World} {cs : List AV} (h : Ga w0 Rd0 e st a w) (hk : hget st.h k = some (.box t cs)) (hb : e.blk k = some b)
    (hl : LR (VR (RDx w0 Rd0 e st.h w) (some e)) xs us) (h1 : ∀ u ∈ us, u.oneCell' = true) (hlen : o + xs.length ≤ cs.length) (i : Nat) (o0 : Nat) (ho : o0 + i = o),
    ∃ e' w' h', (storeCells ⟨b, o0, none⟩ us i).run P w = .ok () w' ∧ Ga w0 Rd0 e' ⟨st.n, st.t, (k, some (.box t (setCells cs o xs))) :: h'⟩ a w' ∧ ∀ j, j ≠ k → hget h' j = hget st.h j
  | [], [], o, st, e, a, w, cs, h, hk, hb, hl, h1, hlen, i, o0, ho => by
    obtain ⟨hl0, b1, us1, hb1, hus1, hlr1⟩ := h.sr.ob _ _ hk
    have hbase := h.sr.base _ _ _ hk hb
    obtain ⟨hs, hR⟩ := h.sr.turn k (e.blk k) (e.sv k) 0 (some (.box t cs)) h.sr.ext (.inr ⟨rfl, rfl⟩) (Nat.le_refl _) (fun _ _ _ => rfl)
      (fun b' hb' _ => ⟨(h.sr.base _ _ _ hk hb').1, (h.sr.base _ _ _ hk hb').2, .inl ⟨_, hk, hb'⟩⟩) (fun b' o' u' ob hob hb' hlt hcell => by rw [hl0] at hlt; omega)
      (fun Rd hR _ ob' hob' => by
        obtain rfl := Option.some.inj hob'
        exact ⟨Env.upd_lent, b1, us1, by rw [Env.upd_blk]; exact hb1, hus1, hlr1.imp fun _ _ hv => (hv.mono hR).envEq rfl (fun j => by by_cases hj : j = k <;> simp [Env.upd, hj]) (fun j => by by_cases hj : j = k <;> simp [Env.upd, hj])⟩)
    refine ⟨_, w, st.h, rfl, ⟨h.n, h.d, hs, (h.tr.mono hR).envEq (fun j => by by_cases hj : j = k <;> simp [Env.upd, hj]) (fun j => by by_cases hj : j = k <;> simp [Env.upd, hj])⟩, fun _ _ => rfl⟩
  | x :: xs, u :: us, o, st, e, a, w, cs, h, hk, hb, hl, h1, hlen, i, o0, ho => by
    have hx : VR (RDx w0 Rd0 e st.h w) (some e) x u := hl.2 0 x u rfl rfl
    have hl' : LR (VR (RDx w0 Rd0 e st.h w) (some e)) xs us := ⟨by simpa using hl.1, fun j c v hc hv => hl.2 (j + 1) c v (by simpa using hc) (by simpa using hv)⟩
    obtain ⟨hs, hR⟩ := h.sr.storeBox hti hk hb o hx
    obtain ⟨hl0, b1, us1, hb1, hus1, hlr1⟩ := h.sr.ob _ _ hk
    obtain rfl := Option.some.inj (hb1.symm.trans hb)
    have hbe : ∀ j, (e.upd k (some b1) (e.sv k) 0).blk j = e.blk j := fun j => by by_cases hj : j = k <;> simp [Env.upd, hj, hb]
    have hse : ∀ j, (e.upd k (some b1) (e.sv k) 0).sv j = e.sv j := fun j => by by_cases hj : j = k <;> simp [Env.upd, hj]
    have hg : Ga w0 Rd0 (e.upd k (some b1) (e.sv k) 0) ⟨st.n, st.t, (k, some (.box t (cs.set o x))) :: st.h⟩ a (w.setCell ⟨b1, o, none⟩ u) := ⟨h.n, h.d, hs, (h.tr.mono hR).envEq hbe hse⟩
    simp only [List.length_cons] at hlen
    obtain ⟨e', w', h', hrun, hg', hh'⟩ := Ga.storeBox hti xs us (o + 1) hg hget_same Env.upd_blk (hl'.imp fun _ _ hv => (hv.mono hR).envEq rfl hbe hse) (fun v hv => h1 v (by simp [hv])) (by simp; omega) (i + 1) o0 (by omega)
    refine ⟨e', w', h', ?_, hg', fun j hj => by rw [hh' j hj, hget_other hj]⟩
    have hadd : (⟨b1, o0, none⟩ : Addr).add i = ⟨b1, o, none⟩ := by rw [Addr.add_lit, ho]
    have hlt : o < us1.length := by rw [hlr1.1]; omega
    have hcell : w.cell? ⟨b1, o, none⟩ = some us1[o] := by
      rw [cell_of_row w b1 o us1.toArray t (0, 0) (hus1.cells hti)]; simp [hlt]
    have hfr := frozen_of_row w b1 o us1.toArray t (hus1.cells hti)
    have hone := h1 u (by simp)
    have hst : (store ⟨b1, o, none⟩ u).run P w = .ok () (w.setCell ⟨b1, o, none⟩ u) := by
      cases u <;> simp_all [store, Sem.run, Value.oneCell']
    simp only [storeCells, Sem.run_bind, hadd, hst, Result.andThen_ok]
    exact hrun
  | [], u :: us, _, _, _, _, _, _, _, _, _, hl, _, _, _, _, _ => by have := hl.1; simp at this
  | x :: xs, [], _, _, _, _, _, _, _, _, _, hl, _, _, _, _, _ => by have := hl.1; simp at this

theorem LR.ones {Rd : Nat → Nat → Value → Prop} {e : Env} {cs : List AV} {us : List Value} (h : LR (VR Rd (some e)) cs us) (h1 : cs.all AV.one = true) (hs : ∀ k, .ow k ∈ cs → (e.sv k).oneCell' = true) : ∀ u ∈ us, u.oneCell' = true := by
  intro u hu
  obtain ⟨j, hj, rfl⟩ := List.getElem_of_mem hu
  have hjc : j < cs.length := by rw [← h.1]; exact hj
  have hm := List.getElem_mem hjc
  exact (h.2 j cs[j] us[j] (List.getElem?_eq_getElem hjc) (List.getElem?_eq_getElem hj)).oneCell (List.all_eq_true.1 h1 _ hm) (fun e' k he hk => by cases he; exact hs k (hk ▸ hm))

theorem Ga.ext_heap {w0 : Bs} {Rd0 : Nat → Nat → Value → Prop} {e : Env} {a : Act} {w : World} {n : Nat} {t : List (Nat × AV)} {h h' : Hp} (hg : Ga w0 Rd0 e ⟨n, t, h⟩ a w) (hh : ∀ j, hget h' j = hget h j) : Ga w0 Rd0 e ⟨n, t, h'⟩ a w := by
  have hR : ∀ b o u, RDx w0 Rd0 e h w b o u ↔ RDx w0 Rd0 e h' w b o u := fun b o u => by unfold RDx; simp only [hh]
  exact ⟨hg.n, hg.d, ⟨hg.sr.ext, hg.sr.good, fun k ob hk => (hg.sr.ob k ob (by rw [← hh]; exact hk)).mono fun b o u => (hR b o u).1, fun k ob b hk => hg.sr.base k ob b (by rw [← hh]; exact hk), fun k k' ob ob' b h1 h2 => hg.sr.inj k k' ob ob' b (by rw [← hh]; exact h1) (by rw [← hh]; exact h2), hg.sr.pin⟩, hg.tr.mono fun b o u => (hR b o u).1⟩

/-- STORE into a block of the call's own -/
theorem SS.storeBox {t bt : TypeId} {x y : Operand} {k o : Nat} {cs xs : List AV} {ag : Bool} {n : Nat} (hti : bt ≠ itT) (hp : st.ev x = .pt k o) (hk : hget st.h k = some (.box bt cs)) (ht : tyA P t = some (ag, n)) (hc : cellsOf (st.ev y) = some xs) (hn : xs.length = n)
    (h1 : xs.all AV.one = true) (ho : owOk st.h (st.ev y) = true) (ho2 : xs.all (owOk st.h) = true) (hlen : o + n ≤ cs.length) (hK : K ⟨st.n, st.t, (k, some (.box bt (setCells cs o xs))) :: st.h⟩) :
    SS P ⟨none, .store t x y, ty, pos, af, gd⟩ st K := by
  intro w0 Rd0 e a w next Q h hn'
  obtain ⟨us, hu, hlr⟩ := cellsOf_ok hc (h.ev y) (h.owOk ho)
  have hvx := h.ev x
  rw [hp] at hvx
  generalize hax : a.eval x = u at hvx
  cases hvx with
  | @pt _ _ _ b hb =>
    obtain ⟨td, i, h2, h3, _, rfl⟩ := tyA_parts ht
    obtain ⟨e', w', h', hrun, hg, hh⟩ := Ga.storeBox (P := P) hti xs us o h hk hb hlr (hlr.ones h1 fun j hj => h.owOk (List.all_eq_true.1 ho2 _ hj) j rfl) (by omega) 0 o rfl
    refine wp_none (w' := w') ?_ (hn' _ hK _ _ _ ((hg.ext_heap (fun j => by
      by_cases hj : j = k
      · subst hj; rw [hget_same, hget_same]
      · rw [hget_other hj, hget_other hj, hh j hj]))))
    have hsz : us.length = i.size := by rw [hlr.1]; exact hn
    simp [execOp, Instr.storeAt, Instr.sureAddr, hax, storeVar, hu, run_sizeOf' w h3, hsz, hrun]
end
end Go.Proofs.Ytggnolfcgaglfaa
