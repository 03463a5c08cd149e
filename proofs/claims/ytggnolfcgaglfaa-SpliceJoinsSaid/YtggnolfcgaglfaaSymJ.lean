/- Slices: built, made, cut, appended to, written. -/
import Derived.Test.YtggnolfcgaglfaaSymI
import Derived.Great.BuildSlice
import Derived.Laws.MakeOwn
set_option linter.unusedVariables false
set_option linter.unusedSimpArgs false
namespace Go.Proofs.Ytggnolfcgaglfaa
open Go Go.RowKit

theorem cellsOf_none {Rd : Nat → Nat → Value → Prop} {c : AV} {cs : List AV} {u : Value} (hc : cellsOf c = some cs) (hv : VR Rd none c u) : ∃ us, u.cells = us.toArray ∧ LR (VR Rd none) cs us := by
  cases c with
  | ag cs' =>
    simp only [cellsOf, Option.some.injEq] at hc
    subst hc
    obtain ⟨us, rfl, hlr⟩ := hv.ag_inv
    exact ⟨us, rfl, hlr⟩
  | _ =>
    simp only [cellsOf] at hc
    split at hc
    · rename_i h1
      simp only [Option.some.injEq] at hc
      subst hc
      have := hv.oneCell h1 (fun e' k he hk => by cases he)
      exact ⟨[u], by rw [oneCell_cells this], LR.cons hv LR.nil⟩
    · cases hc

/-- a list, cut into pieces of sz -/
def chunk (sz : Nat) : Nat → List AV → List (List AV)
  | 0, _ => []
  | n + 1, cs => cs.take sz :: chunk sz n (cs.drop sz)
theorem chunk_ok (sz : Nat) : ∀ (n : Nat) (cs : List AV), cs.length = n * sz → (chunk sz n cs).flatten = cs ∧ (chunk sz n cs).length = n ∧ ∀ r ∈ chunk sz n cs, r.length = sz
  | 0, cs, h => by simp at h; subst h; simp [chunk]
  | n + 1, cs, h => by
    have hl : cs.length = n * sz + sz := by rw [h, Nat.add_mul, Nat.one_mul]
    obtain ⟨h1, h2, h3⟩ := chunk_ok sz n (cs.drop sz) (by simp; omega)
    refine ⟨by rw [chunk, List.flatten_cons, h1, List.take_append_drop], by rw [chunk, List.length_cons, h2], fun r hr => ?_⟩
    rw [chunk] at hr
    rcases List.mem_cons.1 hr with rfl | hr
    · simp; omega
    · exact h3 r hr

def partsB : List Nat → List AV → Option (List (Nat × List AV))
  | [], [] => some []
  | i :: is, c :: cs => match cellsOf c, partsB is cs with
    | some x, some r => some ((i, x) :: r)
    | _, _ => none
  | _, _ => none
theorem partsB_ok {Rd : Nat → Nat → Value → Prop} : ∀ (is : List Nat) (as : List AV) (us : List Value) (qs : List (Nat × List AV)), partsB is as = some qs → LR (VR Rd none) as us → is.length = us.length →
    qs.length = (is.zip us).length ∧ ∀ (j : Nat) p q, qs[j]? = some p → (is.zip us)[j]? = some q → p.1 = q.1 ∧ LR (VR Rd none) p.2 q.2.cells.toList
  | [], [], us, qs, hq, hl, _ => by simp only [partsB, Option.some.injEq] at hq; subst hq; simp
  | i :: is, c :: cs, us, qs, hq, hl, hlen => by
    cases us with
    | nil => have := hl.1; simp at this
    | cons u us =>
      simp only [partsB] at hq
      cases hc : cellsOf c with
      | none => simp [hc] at hq
      | some x =>
        cases hr : partsB is cs with
        | none => simp [hc, hr] at hq
        | some r =>
          simp only [hc, hr, Option.some.injEq] at hq
          subst hq
          obtain ⟨h1, h2⟩ := partsB_ok is cs us r hr ⟨by simpa using hl.1, fun j c u hc hu => hl.2 (j + 1) c u (by simpa using hc) (by simpa using hu)⟩ (by simpa using hlen)
          refine ⟨by simpa using h1, fun j p q hp hq => ?_⟩
          cases j with
          | zero =>
            simp at hp hq
            subst hp; subst hq
            obtain ⟨vs, hu, hlr⟩ := cellsOf_none hc (hl.2 0 c u rfl rfl)
            exact ⟨rfl, by simpa [hu] using hlr⟩
          | succ j => exact h2 j p q (by simpa using hp) (by simpa using hq)
  | [], _ :: _, _, _, hq, _, _ => by simp [partsB] at hq
  | _ :: _, [], _, _, hq, _, _ => by simp [partsB] at hq

section
variable {P : Program} {st : St} {d : Nat} {ty : TypeId} {pos : String} {af : Array Edge} {gd : Option (Nat × Bool)} {K : St → Prop}

/-- a new block of cells that are never written again -/
theorem SR.froze {w0 : Bs} {w w' : World} {Rd0 : Nat → Nat → Value → Prop} {e : Env} {h : Hp} (hs : SR w0 Rd0 e h w) {us : List Value} {t : TypeId} (hx : Ext w w') (hb : w'.heap[w.heap.size]? = some (.cells us.toArray t (0, 0))) :
    ∀ (j : Nat) u, us[j]? = some u → RDx w0 Rd0 e h w' w.heap.size j u := fun j u hj => by
  refine ⟨?_, fun hlt => ?_, fun k ob hk hbk => ?_⟩
  · rw [cell_of_row w' w.heap.size j us.toArray t (0, 0) hb]; simpa using hj
  · exact absurd (hs.ext.mine (Nat.le_refl _)) hlt
  · have := (hs.base _ _ _ hk hbk).2; omega
theorem Ga.later {w0 : Bs} {w w' : World} {Rd0 : Nat → Nat → Value → Prop} {e : Env} {a : Act} (h : Ga w0 Rd0 e st a w) (hx : Ext w w') : Ga w0 Rd0 e st a w' :=
  ⟨h.n, h.d, (h.sr.later hx).1, h.tr.mono (h.sr.later hx).2⟩

theorem run_buildSlice' (w : World) (t e : TypeId) (len : Nat) (parts : Array (Nat × Value)) (ie : TypeInfo) (z : Value)
    (hu : P.underlying t = some (.slice e)) (hie : P.info? e = some ie) (hz : ie.zero = some z) (hsmall : len * ie.size ≤ 16777216) :
    ∃ c0 : Array Value, c0.size = len * ie.size ∧ ∀ cells, Instr.fill (fun i => some (i * ie.size, ie.size)) c0 parts.toList = some cells →
    (Instr.buildSlice t len parts).run P w = .ok (.slice (some ⟨w.heap.size, 0, none⟩) len len) (w.alloc (.cells cells e)) := by
  have hsmall' : ¬ len * ie.size > 2 ^ 24 := by omega
  by_cases h0 : len * ie.size = 0
  · refine ⟨#[], by simp [h0], fun cells h => ?_⟩
    have e0 : Array.range 0 = #[] := Array.range_zero'
    simp only [Instr.buildSlice, Sem.run_bind, run_underlying hu, Result.andThen_ok, run_sizeOf' w hie, hsmall', if_false, h0, if_true]
    simp [h, newRow, h0, e0, newObj, Sem.run]
  · refine ⟨(Array.range (len * ie.size)).map (z.cells[· % z.cells.size]!), by simp, fun cells h => ?_⟩
    exact run_buildSlice w t e len parts cells ie z hu hie hz hsmall' h0 h

/-- A SLICE LITERAL -/
theorem SS.buildSlice {t E : TypeId} {len sz by_ : Nat} {parts : Array (Nat × Operand)} {z : List Value} {h' : Hp} {as cs : List AV} {qs : List (Nat × List AV)} (ht : elA P t = some (E, sz, by_, z))
    (hl : lendAs st.h (parts.toList.map fun p => st.ev p.2) = some (h', as)) (hq : partsB (parts.toList.map (·.1)) as = some qs) (hf : fillA (fun i => some (i * sz, sz)) (List.replicate (len * sz) .un) qs = some cs)
    (h1 : cs.all AV.one = true) (hbig : len * sz ≤ 16777216) (hpos : 0 < sz) (hd : d < st.n) (hK : K ⟨st.n, (d, .sl true sz (chunk sz len cs)) :: st.t, h'⟩) : SS P ⟨some d, .buildSlice t len parts, ty, pos, af, gd⟩ st K := by
  intro w0 Rd0 e a w next Q h hn
  obtain ⟨i, zv, h2, h3, h4, h5, rfl, _, _⟩ := elA_parts ht
  have hargs : LR (VR (RDx w0 Rd0 e st.h w) (some e)) (parts.toList.map fun p => st.ev p.2) (parts.toList.map fun p => a.eval p.2) := by
    refine ⟨by simp, fun j c u h1 h2 => ?_⟩
    rw [List.getElem?_map] at h1 h2
    obtain ⟨x, hx, rfl⟩ := Option.map_eq_some_iff.1 h1
    rw [hx] at h2
    simp at h2
    subst h2
    exact h.ev x.2
  obtain ⟨e1, l, hv⟩ := lendAs_ok _ _ _ _ _ _ h.sr hargs hl
  have hg := h.lent l
  obtain ⟨p1, p2⟩ := partsB_ok _ _ _ _ hq hv (by simp)
  obtain ⟨c0, hc0, hrun⟩ := run_buildSlice' (P := P) w t E len (parts.map fun (i, x) => (i, a.eval x)) i zv h2 h3 h4 hbig
  have hlr0 : LR (VR (RDx w0 Rd0 e1 h' w) none) (List.replicate (len * i.size) .un) c0.toList := by
    refine ⟨by simp [hc0], fun j c u hc hu => ?_⟩
    rw [List.getElem?_replicate] at hc
    split at hc
    · simp at hc; subst hc; exact .un
    · cases hc
  obtain ⟨cells, hfill, hlr⟩ := fill_ok (place := fun j => some (j * i.size, i.size)) qs _ _ cs c0 hlr0 p1 p2 hf
  have hzip : (parts.toList.map (·.1)).zip (parts.toList.map fun p => a.eval p.2) = (parts.map fun (i, x) => (i, a.eval x)).toList := by
    rw [Array.toList_map, List.zip_map']
  rw [hzip] at hfill
  have hlen : cs.length = len * i.size := by
    have hx := hlr.1
    have : ∀ (ps : List (Nat × List AV)) (c c' : List AV), fillA (fun j => some (j * i.size, i.size)) c ps = some c' → c'.length = c.length := by
      intro ps
      induction ps with
      | nil => intro c c' hh; simp only [fillA, Option.some.injEq] at hh; rw [hh]
      | cons p ps ih =>
        intro c c' hh
        obtain ⟨k, xs⟩ := p
        simp only [fillA] at hh
        split at hh
        · rw [ih _ _ hh, setCells_length]
        · cases hh
    rw [this _ _ _ hf]; simp
  obtain ⟨k1, k2, k3⟩ := chunk_ok i.size len cs hlen
  have hx : Ext w (w.alloc (.cells cells E)) := (Ext.refl w).alloc _
  have hg2 := hg.later hx
  have hfz := hg.sr.froze (us := cells.toList) (t := E) hx (by simpa using hNew w (.cells cells E))
  refine wp_value (v := .slice (some ⟨w.heap.size, 0, none⟩) len len) (w' := w.alloc (.cells cells E)) ?_ (hn _ hK e1 _ _ (hg2.put hd ?_))
  · simp only [execOp, Sem.run_bind, hrun cells hfill, Result.andThen_ok, Sem.run_pure]
  · have hlm : len ≤ maxLen := by
      unfold maxLen
      have : len * 1 ≤ len * i.size := Nat.mul_le_mul_left _ hpos
      omega
    have hlr' : LR (VR (RDx w0 Rd0 e1 h' (w.alloc (.cells cells E))) none) (chunk i.size len cs).flatten cells.toList := by
      rw [k1]
      exact hlr.imp fun _ _ hv => hv.mono (hg.sr.later hx).2
    have := VR.sl (E := some e1) (Rd := RDx w0 Rd0 e1 h' (w.alloc (.cells cells E))) (tight := true) (a := some ⟨w.heap.size, 0, none⟩) (cap := len) cells.toList k3 (fun c hc => by rw [k1] at hc; exact List.all_eq_true.1 h1 c hc) hlr'.1 hlr'.2 (by rw [k2]; exact Nat.le_refl _) hlm (fun _ => k2.symm) (fun _ => ⟨_, 0, rfl, fun j u hj => by rw [Nat.zero_add]; exact hfz j u hj⟩)
    rw [k2] at this
    exact this

/-! ### cut -/
def bndA (st : St) (dflt : Nat) : Option Operand → Option Nat
  | none => some dflt
  | some x => match st.ev x with
    | .v (.int _ i) => if 0 ≤ i then some i.toNat else none
    | _ => none
theorem bndA_ok {w0 : Bs} {Rd0 : Nat → Nat → Value → Prop} {e : Env} {a : Act} {w : World} (h : Ga w0 Rd0 e st a w) {x : Operand} {n m : Nat} (hb : bndA st n (some x) = some m) : ∃ k, a.eval x = .int k m := by
  simp only [bndA] at hb
  split at hb
  · rename_i k i hx
    split at hb
    · rename_i h0
      simp only [Option.some.injEq] at hb
      subst hb
      have hv := h.ev x
      rw [hx] at hv
      exact ⟨k, by rw [hv.v_inv, Int.toNat_of_nonneg h0]⟩
    · cases hb
  · cases hb

theorem run_slice_all' {t E : TypeId} {i : TypeInfo} (hu : P.underlying t = some (.slice E)) (hi : P.info? E = some i) (ad : Option Addr) (n cap l h : Nat) (m : Option Nat) (ml : Nat) (lo hi' mx : Option Value) (w : World)
    (hlo : (lo = none ∧ l = 0) ∨ ∃ k, lo = some (.int k (l : Int))) (hhi : (hi' = none ∧ h = n) ∨ ∃ k, hi' = some (.int k (h : Int))) (hmx : (mx = none ∧ ml = cap) ∨ ((∃ k, mx = some (.int k (ml : Int))) ∧ hi' ≠ none))
    (h1 : l ≤ h) (h2 : h ≤ n) (h3 : h ≤ ml) (h4 : ml ≤ cap) (h5 : n ≤ cap) :
    (Instr.sliceAt t (.slice ad n cap) lo hi' mx).run P w = .ok (.slice (if ml = l then ad else ad.map (·.add (l * i.size))) (h - l) (ml - l)) w := by
  have hel : P.elem t = E := by simp [Program.elem, hu]
  have hu' : P.underlying t = some (.slice (P.elem t)) := by rw [hel]; exact hu
  rw [run_sliceAt_slice w t _ lo hi' mx hu']
  have hsz := run_sizeOf' (P := P) w hi
  rcases hlo with ⟨rfl, rfl⟩ | ⟨kl, rfl⟩ <;> rcases hhi with ⟨rfl, rfl⟩ | ⟨kh, rfl⟩ <;> rcases hmx with ⟨rfl, rfl⟩ | ⟨⟨km, rfl⟩, hne⟩
  · rw [run_slice_all w t ad h ml hu']; simp [hel, hsz, sliced]
  · exact absurd rfl hne
  · rw [run_slice_h w t ad n ml hu' kh h (by omega) (by omega)]; simp [hel, hsz, sliced]
  · rw [run_slice_hm w t ad n cap hu' kh km h ml (by omega) (by omega) (by omega)]; simp [hel, hsz, sliced]
  · rw [run_slice_l w t ad h ml hu' kl l (by omega) (by omega)]; simp [hel, hsz, sliced]
  · exact absurd rfl hne
  · rw [run_slice_lh w t ad n ml hu' kl kh l h (by omega) (by omega) (by omega)]; simp [hel, hsz, sliced]
  · rw [run_slice_lhm w t ad n cap hu' kl kh km l h ml (by omega) (by omega) (by omega) (by omega)]; simp [hel, hsz, sliced]
end
end Go.Proofs.Ytggnolfcgaglfaa
