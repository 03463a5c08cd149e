/- Arrays in blocks, as rows: made, looked at by an open index, cut. -/
import Derived.Test.YtggnolfcgaglfaaSymS
set_option linter.unusedVariables false
set_option linter.unusedSimpArgs false
namespace Go.Proofs.Ytggnolfcgaglfaa
open Go Go.RowKit
section
variable {P : Program} {st : St} {d : Nat} {dd : Option Nat} {ty : TypeId} {pos : String} {af : Array Edge} {gd : Option (Nat × Bool)} {K : St → Prop}
theorem SS.allocArr {t : TypeId} {z : List Value} {n sz : Nat} {rows : List (List AV)} (hz : zeroA P t = some z) (hrows : ∀ r ∈ rows, r.length = sz) (hrl : rows.length = n) (hfl : rows.flatten = z.map cvA) (h1 : ∀ c ∈ rows.flatten, c.one = true) (hn : n ≤ maxLen) (hd : d < st.n)
    (hK : K ⟨st.n, (d, .pt d 0) :: tkill d st.t, (d, some (.arr t sz rows true)) :: hkill d st.h⟩) : SS P ⟨some d, .alloc t, ty, pos, af, gd⟩ st K := by
  intro w0 Rd0 e a w next Q hga hn'
  obtain ⟨hs1, hR1⟩ := hga.sr.kill d
  have hflen := flatten_len hrows
  have hzl : z.length = n * sz := by rw [← hrl, ← hflen, hfl, List.length_map]
  have hlr : LR (VR (RDx w0 Rd0 e (hkill d st.h) w) none) rows.flatten z := by
    rw [hfl]
    exact ⟨by simp, fun j c u h1 h2 => by
      rw [List.getElem?_map, h2] at h1
      simp at h1; subst h1
      exact cvA_ok u⟩
  obtain ⟨hs2, hR2⟩ := hs1.newArr d t sz n (rows := rows) (cur := z.toArray) hrows h1 (by
      have : z.toArray.toList.take rows.flatten.length = z := by
        rw [hlr.1.symm]; simp
      rw [this]; exact hlr) (by omega) hn (by simp [hzl]) (hnom_kill d st.h) (by have := hga.n.2; omega) (w.alloc (.cells z.toArray t)) rfl (hga.sr.ext.alloc _)
  unfold zeroA at hz
  obtain ⟨i, hi, hz⟩ := Option.bind_eq_some_iff.1 hz
  obtain ⟨zv, hzv, rfl⟩ := Option.map_eq_some_iff.1 hz
  refine wp_value (v := .pointer (some ⟨w.heap.size, 0, none⟩)) (w' := w.alloc (.cells zv.cells.toList.toArray t)) ?_ (hn' _ hK _ _ _ ⟨by simpa [Act.put] using hga.n, hga.d, hs2, TR.put ?_ (by rw [hga.n.1]; exact hd) (.pt Env.upd_blk)⟩)
  · simp [execOp, Instr.alloc, zeroValue, typeInfo, hi, hzv, newVar, newRow, newObj, Sem.run]
  · exact (((hga.tr.kill d).mono hR1).mono hR2).env d (tnom_kill d st.t) (fun _ hi => Env.upd_blk' hi) (fun _ hi => Env.upd_sv' hi)
theorem SS.buildSliceOw {t E : TypeId} {len sz by_ : Nat} {parts : Array (Nat × Operand)} {z : List Value} {h' : Hp} {as cs : List AV} {qs : List (Nat × List AV)} (ht : elA P t = some (E, sz, by_, z))
    (hl : lendAs st.h (parts.toList.map fun p => st.ev p.2) = some (h', as)) (hq : partsB (parts.toList.map (·.1)) as = some qs) (hf : fillA (fun i => some (i * sz, sz)) (List.replicate (len * sz) .un) qs = some cs)
    (h1 : cs.all AV.one = true) (hbig : len * sz ≤ 16777216) (hpos : 0 < sz) (hd : d < st.n) (hK : K ⟨st.n, (d, .ow d) :: tkill d st.t, (d, some (.arr E sz (chunk sz len cs) true)) :: hkill d h'⟩) : SS P ⟨some d, .buildSlice t len parts, ty, pos, af, gd⟩ st K := by
  intro w0 Rd0 e a w next Q h hn
  obtain ⟨i, zv, h2, h3, h4, h5, rfl, _, _⟩ := elA_parts ht
  have hargs : LR (VR (RDx w0 Rd0 e st.h w) (some e)) (parts.toList.map fun p => st.ev p.2) (parts.toList.map fun p => a.eval p.2) := by
    refine ⟨by simp, fun j c u h1 h2 => ?_⟩
    rw [List.getElem?_map] at h1 h2
    obtain ⟨x, hx, rfl⟩ := Option.map_eq_some_iff.1 h1
    rw [hx] at h2
    simp at h2
    subst h2
    exact h.ev x.2
  obtain ⟨e1, l, hv⟩ := lendAs_ok _ _ _ _ _ _ h.sr hargs hl
  have hg := h.lent l
  obtain ⟨p1, p2⟩ := partsB_ok _ _ _ _ hq hv (by simp)
  obtain ⟨c0, hc0, hrun⟩ := run_buildSlice' (P := P) w t E len (parts.map fun (i, x) => (i, a.eval x)) i zv h2 h3 h4 hbig
  have hlr0 : LR (VR (RDx w0 Rd0 e1 h' w) none) (List.replicate (len * i.size) .un) c0.toList := by
    refine ⟨by simp [hc0], fun j c u hc hu => ?_⟩
    rw [List.getElem?_replicate] at hc
    split at hc
    · simp at hc; subst hc; exact .un
    · cases hc
  obtain ⟨cells, hfill, hlr⟩ := fill_ok (place := fun j => some (j * i.size, i.size)) qs _ _ cs c0 hlr0 p1 p2 hf
  have hzip : (parts.toList.map (·.1)).zip (parts.toList.map fun p => a.eval p.2) = (parts.map fun (i, x) => (i, a.eval x)).toList := by
    rw [Array.toList_map, List.zip_map']
  rw [hzip] at hfill
  have hlen : cs.length = len * i.size := by
    have hx := hlr.1
    have : ∀ (ps : List (Nat × List AV)) (c c' : List AV), fillA (fun j => some (j * i.size, i.size)) c ps = some c' → c'.length = c.length := by
      intro ps
      induction ps with
      | nil => intro c c' hh; simp only [fillA, Option.some.injEq] at hh; rw [hh]
      | cons p ps ih =>
        intro c c' hh
        obtain ⟨k, xs⟩ := p
        simp only [fillA] at hh
        split at hh
        · rw [ih _ _ hh, setCells_length]
        · cases hh
    rw [this _ _ _ hf]; simp
  obtain ⟨k1, k2, k3⟩ := chunk_ok i.size len cs hlen
  obtain ⟨hs1, hR1⟩ := hg.sr.kill d
  have hlm : len ≤ maxLen := by
    unfold maxLen
    have : len * 1 ≤ len * i.size := Nat.mul_le_mul_left _ hpos
    omega
  have hfl : (chunk i.size len cs).flatten.length = cells.toList.length := by rw [k1, hlr.1]
  have hlr' : LR (VR (RDx w0 Rd0 e1 (hkill d h') w) none) (chunk i.size len cs).flatten (cells.toList.take (chunk i.size len cs).flatten.length) := by
    rw [hfl, List.take_length, k1]
    exact hlr.imp fun _ _ hv => hv.mono hR1
  obtain ⟨hs2, hR2⟩ := hs1.newArr d E i.size len (rows := chunk i.size len cs) (cur := cells) k3 (fun c hc => by rw [k1] at hc; exact List.all_eq_true.1 h1 c hc) hlr' (by rw [k2]; exact Nat.le_refl _) hlm (by have := hlr.1; rw [hlen] at this; simpa using this) (hnom_kill d h') (by have := h.n.2; omega) (w.alloc (.cells cells E)) rfl (hg.sr.ext.alloc _)
  rw [k2] at hs2 hR2
  refine wp_value (v := .slice (some ⟨w.heap.size, 0, none⟩) len len) (w' := w.alloc (.cells cells E)) ?_ (hn _ hK _ _ _ ⟨by simpa [Act.put] using hg.n, hg.d, hs2, TR.put ?_ (by rw [hg.n.1]; exact hd) ?_⟩)
  · simp only [execOp, Sem.run_bind, hrun cells hfill, Result.andThen_ok, Sem.run_pure]
  · exact (((hg.tr.kill d).mono hR1).mono hR2).env d (tnom_kill d st.t) (fun _ hi => Env.upd_blk' hi) (fun _ hi => Env.upd_sv' hi)
  · have := VR.ow (Rd := RDx w0 Rd0 (e1.upd d (some w.heap.size) (.slice (some ⟨w.heap.size, 0, none⟩) len len) 0) ((d, some (.arr E i.size (chunk i.size len cs) true)) :: hkill d h') (w.alloc (.cells cells E))) (e := e1.upd d (some w.heap.size) (.slice (some ⟨w.heap.size, 0, none⟩) len len) 0) (k := d)
    rw [Env.upd_sv] at this
    exact this
theorem RS.imp {o : Oper} {c c' : AV} (h : RS P o st c) (hc : ∀ Rd E u, VR Rd E c u → VR Rd E c' u) : RS P o st c' := fun w0 Rd0 e a w hg => by
  obtain ⟨v, hv, hr⟩ := h w0 Rd0 e a w hg
  exact ⟨v, hc _ _ _ hv, hr⟩
theorem RS.indexArrOw {t E : TypeId} {x y : Operand} {n sz kk : Nat} {k : IntKind} {i : Int} (ht : arA P t = some (n, E, sz)) (hy : st.ev y = .v (.int k i)) (h0 : 0 ≤ i) (h1 : i < n) (hx : st.ev x = .pt kk 0) :
    RS P ⟨dd, .indexAddr t x y, ty, pos, af, gd⟩ st (.pe kk i.toNat sz 0) := by
  refine RS.imp (RS.indexArr (q := .pt kk (0 + i.toNat * sz)) ht hy h0 h1 (by rw [hx]; rfl)) fun Rd E u hv => ?_
  cases hv with
  | pt hb =>
    have := VR.pe (Rd := Rd) (i := i.toNat) (sz := sz) (o := 0) hb
    rw [Nat.add_zero] at this
    rw [Nat.zero_add]
    exact this
theorem RS.window {t E : TypeId} {x : Operand} {lo hi : Option Operand} {n sz kk l h : Nat} (ht : arA P t = some (n, E, sz)) (hx : st.ev x = .pt kk 0) (hlo : bndA st 0 lo = some l) (hhi : bndA st n hi = some h) (h1 : l ≤ h) (h2 : h ≤ n) (hn : n ≤ maxLen) :
    RS P ⟨dd, .slice t x lo hi none, ty, pos, af, gd⟩ st (.sw kk l (h - l) sz) := fun w0 Rd0 e a w hga => by
  obtain ⟨inf, h1', h2', rfl⟩ := arA_parts ht
  have hvx := hga.ev x
  rw [hx] at hvx
  generalize hax : a.eval x = u at hvx
  cases hvx with
  | @pt e k o b hb =>
    have hel : P.elem t = E := by simp [Program.elem, h1']
    have hal : P.arrayLen t = n := by simp [Program.arrayLen, h1']
    have hu : P.underlying t = some (.array (P.arrayLen t) (P.elem t)) := by rw [hel, hal]; exact h1'
    have hlo' : (lo = none ∧ l = 0) ∨ ∃ k, lo.map a.eval = some (.int k (l : Int)) := by
      cases lo with
      | none => simp [bndA] at hlo; exact .inl ⟨rfl, hlo.symm⟩
      | some y => obtain ⟨k, hk⟩ := bndA_ok hga hlo; exact .inr ⟨k, by simp [hk]⟩
    have hhi' : (hi = none ∧ h = n) ∨ ∃ k, hi.map a.eval = some (.int k (h : Int)) := by
      cases hi with
      | none => simp [bndA] at hhi; exact .inl ⟨rfl, hhi.symm⟩
      | some y => obtain ⟨k, hk⟩ := bndA_ok hga hhi; exact .inr ⟨k, by simp [hk]⟩
    refine ⟨slicedAt ⟨b, 0, none⟩ l h n inf.size, ?_, fun w' hxx => ?_⟩
    · unfold slicedAt
      by_cases e1 : n = l
      · rw [if_pos e1]
        exact VR.sw hb (fun hp => by omega) (by omega) (by omega)
      · rw [if_neg e1, Addr.add_lit, Nat.zero_add]
        exact VR.sw hb (fun _ => rfl) (by omega) (by omega)
    · have hsz := run_sizeOf' (P := P) w' h2'
      rcases hlo' with ⟨rfl, rfl⟩ | ⟨kl, hkl⟩ <;> rcases hhi' with ⟨rfl, rfl⟩ | ⟨kh, hkh⟩
      · simp [execOp, hax, run_sliceAt_array_all w' t ⟨b, 0, none⟩ hu, hel, hal, hsz]
      · simp only [execOp, hax, Option.map_none, hkh, run_sliceAt_array_h w' t ⟨b, 0, none⟩ hu kh h (by omega) (by rw [hal]; omega), Sem.run_bind, hel, hsz, hal, Result.andThen_ok, Int.toNat_natCast, Sem.run_pure]
      · simp only [execOp, hax, Option.map_none, hkl, run_sliceAt_array_l w' t ⟨b, 0, none⟩ hu kl l (by omega) (by rw [hal]; omega), Sem.run_bind, hel, hsz, hal, Result.andThen_ok, Int.toNat_natCast, Sem.run_pure]
      · simp only [execOp, hax, Option.map_none, hkl, hkh, run_sliceAt_array_lh w' t ⟨b, 0, none⟩ hu kl kh l h (by omega) (by omega) (by rw [hal]; omega), Sem.run_bind, hel, hsz, hal, Result.andThen_ok, Int.toNat_natCast, Sem.run_pure]
end
end Go.Proofs.Ytggnolfcgaglfaa
