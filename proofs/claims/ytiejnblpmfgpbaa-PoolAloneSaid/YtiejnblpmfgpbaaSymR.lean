/- Calls that make nothing; appends to a slice that ends at its capacity; stores into rows. -/
import Derived.Test.YtiejnblpmfgpbaaSymQ
set_option linter.unusedVariables false
set_option linter.unusedSimpArgs false
namespace Go.Proofs.Ytiejnblpmfgpbaa
open Go Go.RowKit
section
variable {P : Program} {st : St} {d : Nat} {dd : Option Nat} {ty : TypeId} {pos : String} {af : Array Edge} {gd : Option (Nat × Bool)} {K : St → Prop}

/-- CALL of a function that hands out nothing of its own -/
theorem SS.callF {f : FuncId} {args : Array Operand} {ts : Array TypeId} {h' : Hp} {as : List AV} {r : AV} (hr : RC P f as [] r) (hl : lendAs st.h (args.toList.map st.ev) = some (h', as)) (hn : r.nom (fun _ => true) = true) (hd : d < st.n)
    (hK : K ⟨st.n, (d, r) :: st.t, h'⟩) : SS P ⟨some d, .call ⟨.value (.func f), args, ts⟩, ty, pos, af, gd⟩ st K := by
  intro w0 Rd0 e a w next Q h hn'
  have hargs : LR (VR (RDx w0 Rd0 e st.h w) (some e)) (args.toList.map st.ev) (args.toList.map a.eval) := by
    refine ⟨by simp, fun j c u h1 h2 => ?_⟩
    rw [List.getElem?_map] at h1 h2
    obtain ⟨x, hx, rfl⟩ := Option.map_eq_some_iff.1 h1
    rw [hx] at h2
    simp at h2
    subst h2
    exact h.ev x
  obtain ⟨e1, l, hv⟩ := lendAs_ok _ _ _ _ _ _ h.sr hargs hl
  have h1 := h.lent l
  have hcall := hr.2 w (RDx w0 Rd0 e1 h' w) (args.toList.map a.eval) (fun b o u hh => hh.1) hv
  have hrun : (execOp a.eval ⟨some d, .call ⟨.value (.func f), args, ts⟩, ty, pos, af, gd⟩).run P w = .ok (.enter f (args.toList.map a.eval).toArray) w := by
    have := run_callFunc hr.1 (args.map a.eval) w
    have e1 : (args.toList.map a.eval).toArray = args.map a.eval := by rw [← Array.toList_map]
    rw [e1]
    simpa [execOp, resolve, Act.eval, Deferred.ofValue, invoke] using this
  unfold Oper.wp
  rw [hrun]
  show Calls P f _ w _
  refine hcall.mono fun x w' hx => ?_
  obtain ⟨v, e2, rfl, hs2, hv2⟩ := hx
  have hg2 := h1.later hs2.ext
  refine hn' _ hK e1 _ _ (hg2.put hd ?_)
  have hv3 := hv2.envp (e' := e1) rfl (fun _ => true) hn (fun j hj => by cases hj) (fun j hj => by cases hj)
  refine hv3.mono fun b o u ⟨r1, r2, _⟩ => ?_
  by_cases hb : b < w.heap.size
  · exact (h1.sr.later hs2.ext).2 b o u (r2 hb)
  · refine ⟨r1, fun hlt => ?_, fun k ob hk hbk => ?_⟩
    · have := h1.sr.ext.size; omega
    · have := (h1.sr.base _ _ _ hk hbk).2; omega

/-- APPEND of something to a slice that ends at its capacity -/
theorem SS.appendTight {t E : TypeId} {x y : Operand} {sz by_ : Nat} {z : List Value} {h1 : Hp} {tt : Bool} {rows ys : List (List AV)} (ht : elA P t = some (E, sz, by_, z)) (hx : st.ev x = .sl true sz rows) (hl : lendC st.h (st.ev y) = some (h1, .sl tt sz ys))
    (hne : 0 < ys.length) (hpos : 0 < sz) (hm : rows.length + ys.length ≤ maxLen) (hby : (rows.length + ys.length) * by_ ≤ 140737488355328) (hd : d < st.n)
    (hK : K ⟨st.n, (d, .ow d) :: tkill d st.t, (d, some (.arr E sz (rows ++ ys) true)) :: hkill d h1⟩) : SS P ⟨some d, .call ⟨.builtin .append, #[x, y], #[t, t]⟩, ty, pos, af, gd⟩ st K := by
  intro w0 Rd0 e a w next Q hga hn
  obtain ⟨i, zv, p2, p3, p4, p5, rfl, rfl, _⟩ := elA_parts ht
  obtain ⟨e1, len, hv⟩ := lendC_ok hga.sr (hga.ev y) hl
  have hg := hga.lent len
  have hvx : VR (RDx w0 Rd0 e1 h1 w) (some e1) (.sl true i.size rows) (a.eval x) := by
    have := hg.ev x
    have e2 : (⟨st.n, st.t, h1⟩ : St).ev x = st.ev x := by cases x <;> rfl
    rw [e2, hx] at this
    exact this
  obtain ⟨ad, cap, us, hav, hw0, h1c, hlr, _, hcm, htt, ha⟩ := hvx.sl_inv
  obtain ⟨ad2, cap2, xs, hav2, hw2, h1c2, hlr2, _, hcm2, _, ha2⟩ := hv.sl_inv
  have hcap := htt rfl
  subst hcap
  have hf1 := flatten_len hw0
  have hf2 := flatten_len hw2
  have hxl : xs.length = ys.length * i.size := by rw [hlr2.1, hf2]
  have hxne : xs ≠ [] := by
    rintro rfl
    have := Nat.mul_pos hne hpos
    simp at hxl; omega
  obtain ⟨b2, o2, rfl, hc2⟩ := ha2 hxne
  have hnews : ∀ (j : Nat) u, xs[j]? = some u → w.cell? ((⟨b2, o2, none⟩ : Addr).add j) = some u := fun j u hj => by rw [Addr.add_lit]; exact (hc2 j u hj).1
  have hul : us.length = rows.length * i.size := by rw [hlr.1, hf1]
  have hm' : rows.length + ys.length ≤ 9223372036854775807 := by unfold maxLen at hm; exact hm
  have hgr : ∃ old, (Builtin.append_ #[t, t] ty #[a.eval x, a.eval y]).run P w = .ok (.slice (some ⟨w.heap.size, 0, none⟩) (rows.length + ys.length) (grownCap w (rows.length + ys.length) old E))
      (w.drew.alloc (.cells (us.toArray ++ xs.toArray ++ Builtin.zeroCells zv.cells (grownCap w (rows.length + ys.length) old E - (rows.length + ys.length))) E)) := by
    rw [hav, hav2]
    by_cases hr0 : rows.length = 0
    · have hue : us = [] := List.eq_nil_of_length_eq_zero (by rw [hul, hr0]; simp)
      subst hue
      simp only [hr0, Nat.zero_add]
      cases ad with
      | none =>
        refine ⟨0, ?_⟩
        have := run_append_nil (P := P) w t ty E i zv p2 p3 p4 ⟨b2, o2, none⟩ ys.length cap2 xs hxl hnews hne (by omega) (by
          rw [hr0, Nat.zero_add] at hby; omega)
        simpa using this
      | some ad =>
        refine ⟨0, ?_⟩
        have := run_append_grow (P := P) w t ty E i zv p2 p3 p4 ad 0 0 [] (by simp) (by simp) ⟨b2, o2, none⟩ ys.length cap2 xs hxl hnews (by omega) (by omega) (by
          rw [hr0, Nat.zero_add] at hby
          rw [Nat.zero_add, nextslicecap_zero hne]; omega)
        simpa using this
    · have hune : us ≠ [] := by
        rintro rfl
        have := Nat.mul_pos (Nat.pos_of_ne_zero hr0) hpos
        simp at hul; omega
      obtain ⟨b1, o1, rfl, hc1⟩ := ha hune
      exact ⟨rows.length, run_append_grow (P := P) w t ty E i zv p2 p3 p4 ⟨b1, o1, none⟩ rows.length rows.length us hul (fun j u hj => by rw [Addr.add_lit]; exact (hc1 j u hj).1) ⟨b2, o2, none⟩ ys.length cap2 xs hxl hnews (by omega) (by omega) (growslice_fits (by omega) hby)⟩
  obtain ⟨old, hrun⟩ := hgr
  obtain ⟨hs1, hR1⟩ := hg.sr.kill d
  have hnc := grownCap_ge w (rows.length + ys.length) old E
  have hncm := grownCap_le_maxLen w (rows.length + ys.length) old E hm
  have hfl : (rows ++ ys).flatten.length = us.length + xs.length := by rw [List.flatten_append, List.length_append, hlr.1, hlr2.1]
  obtain ⟨hs2, hR2⟩ := hs1.newArr d E i.size (grownCap w (rows.length + ys.length) old E) (rows := rows ++ ys) (cur := us.toArray ++ xs.toArray ++ Builtin.zeroCells zv.cells (grownCap w (rows.length + ys.length) old E - (rows.length + ys.length)))
    (fun r hr => by
      rcases List.mem_append.1 hr with hr | hr
      · exact hw0 r hr
      · exact hw2 r hr)
    (fun c hc => by
      rw [List.flatten_append] at hc
      rcases List.mem_append.1 hc with hc | hc
      · exact h1c c hc
      · exact h1c2 c hc)
    (by
      have e1 : (us.toArray ++ xs.toArray ++ Builtin.zeroCells zv.cells (grownCap w (rows.length + ys.length) old E - (rows.length + ys.length))).toList.take (rows ++ ys).flatten.length = us ++ xs := by
        rw [Array.toList_append, Array.toList_append, hfl, ← List.length_append]
        exact List.take_left
      rw [e1, List.flatten_append]
      exact (hlr.imp fun _ _ h => h.mono hR1).append (hlr2.imp fun _ _ h => h.mono hR1)) (by rw [List.length_append]; exact hnc) hncm
    (by
      simp only [Array.size_append, List.size_toArray, size_zeroCells, p5, hul, hxl, ← Nat.add_mul]
      congr 1
      omega) (hnom_kill d h1) (w.drew.alloc (.cells (us.toArray ++ xs.toArray ++ Builtin.zeroCells zv.cells (grownCap w (rows.length + ys.length) old E - (rows.length + ys.length))) E)) rfl (hg.sr.ext.drew.alloc _)
  rw [List.length_append] at hs2 hR2
  refine wp_value (run_appendOp hrun) (hn _ hK _ _ _ ⟨by simpa [Act.put] using hga.n, hga.d, hs2, TR.put ?_ (by rw [hga.n]; exact hd) ?_⟩)
  · exact (((hg.tr.kill d).mono hR1).mono hR2).env d (tnom_kill d st.t) (fun _ hi => Env.upd_blk' hi) (fun _ hi => Env.upd_sv' hi)
  · have := VR.ow (Rd := RDx w0 Rd0 (e1.upd d (some w.heap.size) (.slice (some ⟨w.heap.size, 0, none⟩) (rows.length + ys.length) (grownCap w (rows.length + ys.length) old E)) 0) ((d, some (.arr E i.size (rows ++ ys) true)) :: hkill d h1) (w.drew.alloc (.cells (us.toArray ++ xs.toArray ++ Builtin.zeroCells zv.cells (grownCap w (rows.length + ys.length) old E - (rows.length + ys.length))) E))) (e := e1.upd d (some w.heap.size) (.slice (some ⟨w.heap.size, 0, none⟩) (rows.length + ys.length) (grownCap w (rows.length + ys.length) old E)) 0) (k := d)
    rw [Env.upd_sv] at this
    exact this
end
end Go.Proofs.Ytiejnblpmfgpbaa
