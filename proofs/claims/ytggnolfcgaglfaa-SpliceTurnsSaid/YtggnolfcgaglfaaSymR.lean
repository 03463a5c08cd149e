/- Calls that make nothing; appends to a slice that ends at its capacity; stores into rows. -/
import Derived.Test.YtggnolfcgaglfaaSymQ
set_option linter.unusedVariables false
set_option linter.unusedSimpArgs false
namespace Go.Proofs.Ytggnolfcgaglfaa
open Go Go.RowKit
section
variable {P : Program} {st : St} {d : Nat} {dd : Option Nat} {ty : TypeId} {pos : String} {af : Array Edge} {gd : Option (Nat × Bool)} {K : St → Prop}

/-- CALL of a function that is handed no object and hands out nothing of its own -/
theorem Bx.ext {B : Bs} {w : World} (h : Bx B w) (ho : ∀ b, ¬ B.own b) : Ext B.w w := ⟨h.os, h.tape, h.output, h.size, fun b hb => h.block b fun hm => by
  rcases hm with hm | hm
  · omega
  · exact ho b hm⟩
theorem cB_nil {B : Nat} {e : Env} {w : World} (b : Nat) : ¬ (cB [] B e w).own b := by rintro ⟨p, c, h, _⟩; cases h
theorem cB_nil' {B : Nat} {e : Env} {w : World} {b : Nat} (hm : (cB [] B e w).mine b) : w.heap.size ≤ b := hm.resolve_right (cB_nil b)
theorem Ga.backF {w0 : Bs} {Rd0 : Nat → Nat → Value → Prop} {e e2 : Env} {a : Act} {w w' : World} {B : Nat} {r : AV} {v : Value} (h1 : Ga w0 Rd0 e st a w) (hs2 : SR (cB [] B e w) (cRd [] B w0 Rd0 e st.h w) e2 [] w')
    (hv : VR (RDx (cB [] B e w) (cRd [] B w0 Rd0 e st.h w) e2 [] w') (some e2) r v) (hn : r.nom (fun _ => true) = true) (hd : d < st.n) : Ga w0 Rd0 e ⟨st.n, (d, r) :: st.t, st.h⟩ (a.put (some d) v) w' := by
  have hx : Ext w w' := hs2.ext.ext cB_nil
  have hg2 : Ga w0 Rd0 e st a w' := h1.later hx
  refine hg2.put hd ?_
  have hv3 := hv.envp (e' := e) rfl (fun _ => true) hn (fun j hj => by cases hj) (fun j hj => by cases hj)
  refine hv3.mono fun b o u ⟨r1, r2, _⟩ => ?_
  by_cases hb : (cB [] B e w).mine b
  · have hb := cB_nil' hb
    exact ⟨r1, fun hlt => absurd (h1.sr.ext.mine hb) hlt, fun k ob hk hbk => by have := (h1.sr.base _ _ _ hk hbk).2; omega⟩
  · exact (h1.sr.later hx).2 b o u (r2 hb).1
theorem SS.callF {f : FuncId} {op : Op} {avs : List AV} {h' : Hp} {as : List AV} {r : AV} (hr : RCX P f [] as [] r) (hen : ENT P ⟨some d, op, ty, pos, af, gd⟩ st f avs) (hg : Gives st [] (1000 * (d + 1)) h' [] as avs) (hn : r.nom (fun _ => true) = true) (hd : d < st.n)
    (hK : K ⟨st.n, (d, r) :: st.t, h'⟩) : SS P ⟨some d, op, ty, pos, af, gd⟩ st K := by
  intro w0 Rd0 e a w next Q h hn'
  obtain ⟨us, hus, hrun⟩ := hen hr.1 w0 Rd0 e a w h
  obtain ⟨e1, l, hp, hm, hv⟩ := hg w0 Rd0 e w _ h.sr hus
  have h1 := h.lent l
  have hD : okD (1000 * (d + 1)) [] = true := by
    have := h.n.2
    simp [okD, dstN]; omega
  have hs := h1.sr.enterX hp hD hm
  have hcall := hr.2 _ _ _ w us hs (hv.unren fun b o u hh => hh.enterX hp fun p ob hpo => by simp [hget] at hpo)
  unfold Oper.wp
  rw [hrun w]
  show Calls P f _ w _
  refine hcall.mono fun x w' hx => ?_
  obtain ⟨v, e2, rfl, hs2, hv2⟩ := hx
  exact hn' _ hK e1 _ _ (h1.backF hs2 hv2 hn hd)
theorem SS.callFP {f : FuncId} {op : Op} {avs : List AV} {as : List AV} {r : AV} (hr : RCX P f [] as [] r) (hpr : r.pu = true) (hen : ENT P ⟨some d, op, ty, pos, af, gd⟩ st f avs) (hg : GivesP st [] (1000 * (d + 1)) [] as avs) (hn : r.nom (fun _ => true) = true) (hd : d < st.n)
    (hK : K ⟨st.n, (d, r) :: st.t, st.h⟩) : SS P ⟨some d, op, ty, pos, af, gd⟩ st K := by
  intro w0 Rd0 e a w next Q h hn'
  obtain ⟨us, hus, hrun⟩ := hen hr.1 w0 Rd0 e a w h
  obtain ⟨hp, hm, hv⟩ := hg w0 Rd0 e w _ h.sr hus
  have hRB : ∀ b o u, RB [] (1000 * (d + 1)) e w b o u → RDx (cB [] (1000 * (d + 1)) e w) (RB [] (1000 * (d + 1)) e w) (e.pi [] (1000 * (d + 1))) [] w b o u := fun b o u hh => ⟨hh.1, fun _ => hh, fun p ob hpo hb => by simp [hget] at hpo⟩
  have hs : SR (cB [] (1000 * (d + 1)) e w) (RB [] (1000 * (d + 1)) e w) (e.pi [] (1000 * (d + 1))) [] w :=
    ⟨⟨rfl, rfl, rfl, Nat.le_refl _, fun _ _ => rfl⟩, ⟨fun b o u hh => hh, fun b o u hg => ⟨(h.sr.glob hg).1, h.sr.globX hp hg⟩⟩, fun p ob hpo => by simp [hget] at hpo, fun p ob b hpo => by simp [hget] at hpo, fun p p' ob ob' b hpo => by simp [hget] at hpo, fun k _ => ⟨rfl, rfl⟩⟩
  have hcall := hr.2 _ _ _ w us hs (hv.unren hRB)
  unfold Oper.wp
  rw [hrun w]
  show Calls P f _ w _
  refine hcall.mono fun x w' hx => ?_
  obtain ⟨v, e2, rfl, hs2, hv2⟩ := hx
  exact hn' _ hK e _ _ (h.backF (hs2.pure (fun k ob hk => by simp [hget] at hk) ⟨fun b o u hh => ⟨hh.1.1, hh.2⟩, fun b o u hg => ⟨h.sr.glob hg, h.sr.globX hp hg⟩⟩) (hv2.pure hpr) hn hd)

/-- APPEND of something to a slice that ends at its capacity -/
theorem SS.appendTight {t E : TypeId} {x y : Operand} {sz by_ : Nat} {z : List Value} {h1 : Hp} {tt : Bool} {rows ys : List (List AV)} (ht : elA P t = some (E, sz, by_, z)) (hx : st.ev x = .sl true sz rows) (hl : lendC st.h (st.ev y) = some (h1, .sl tt sz ys))
    (hne : 0 < ys.length) (hpos : 0 < sz) (hm : rows.length + ys.length ≤ maxLen) (hby : (rows.length + ys.length) * by_ ≤ 140737488355328) (hd : d < st.n)
    (hK : K ⟨st.n, (d, .ow d) :: tkill d st.t, (d, some (.arr E sz (rows ++ ys) true)) :: hkill d h1⟩) : SS P ⟨some d, .call ⟨.builtin .append, #[x, y], #[t, t]⟩, ty, pos, af, gd⟩ st K := by
  intro w0 Rd0 e a w next Q hga hn
  obtain ⟨i, zv, p2, p3, p4, p5, rfl, rfl, _⟩ := elA_parts ht
  obtain ⟨e1, len, hv⟩ := lendC_ok hga.sr (hga.ev y) hl
  have hg := hga.lent len
  have hvx : VR (RDx w0 Rd0 e1 h1 w) (some e1) (.sl true i.size rows) (a.eval x) := by
    have := hg.ev x
    have e2 : (⟨st.n, st.t, h1⟩ : St).ev x = st.ev x := by cases x <;> rfl
    rw [e2, hx] at this
    exact this
  obtain ⟨ad, cap, us, hav, hw0, h1c, hlr, _, hcm, htt, ha⟩ := hvx.sl_inv
  obtain ⟨ad2, cap2, xs, hav2, hw2, h1c2, hlr2, _, hcm2, _, ha2⟩ := hv.sl_inv
  have hcap := htt rfl
  subst hcap
  have hf1 := flatten_len hw0
  have hf2 := flatten_len hw2
  have hxl : xs.length = ys.length * i.size := by rw [hlr2.1, hf2]
  have hxne : xs ≠ [] := by
    rintro rfl
    have := Nat.mul_pos hne hpos
    simp at hxl; omega
  obtain ⟨b2, o2, rfl, hc2⟩ := ha2 hxne
  have hnews : ∀ (j : Nat) u, xs[j]? = some u → w.cell? ((⟨b2, o2, none⟩ : Addr).add j) = some u := fun j u hj => by rw [Addr.add_lit]; exact (hc2 j u hj).1
  have hul : us.length = rows.length * i.size := by rw [hlr.1, hf1]
  have hm' : rows.length + ys.length ≤ 9223372036854775807 := by unfold maxLen at hm; exact hm
  have hgr : ∃ old, (Builtin.append_ #[t, t] ty #[a.eval x, a.eval y]).run P w = .ok (.slice (some ⟨w.heap.size, 0, none⟩) (rows.length + ys.length) (grownCap w (rows.length + ys.length) old E))
      (w.drew.alloc (.cells (us.toArray ++ xs.toArray ++ Builtin.zeroCells zv.cells (grownCap w (rows.length + ys.length) old E - (rows.length + ys.length))) E)) := by
    rw [hav, hav2]
    by_cases hr0 : rows.length = 0
    · have hue : us = [] := List.eq_nil_of_length_eq_zero (by rw [hul, hr0]; simp)
      subst hue
      simp only [hr0, Nat.zero_add]
      cases ad with
      | none =>
        refine ⟨0, ?_⟩
        have := run_append_nil (P := P) w t ty E i zv p2 p3 p4 ⟨b2, o2, none⟩ ys.length cap2 xs hxl hnews hne (by omega) (by
          rw [hr0, Nat.zero_add] at hby; omega)
        simpa using this
      | some ad =>
        refine ⟨0, ?_⟩
        have := run_append_grow (P := P) w t ty E i zv p2 p3 p4 ad 0 0 [] (by simp) (by simp) ⟨b2, o2, none⟩ ys.length cap2 xs hxl hnews (by omega) (by omega) (by
          rw [hr0, Nat.zero_add] at hby
          rw [Nat.zero_add, nextslicecap_zero hne]; omega)
        simpa using this
    · have hune : us ≠ [] := by
        rintro rfl
        have := Nat.mul_pos (Nat.pos_of_ne_zero hr0) hpos
        simp at hul; omega
      obtain ⟨b1, o1, rfl, hc1⟩ := ha hune
      exact ⟨rows.length, run_append_grow (P := P) w t ty E i zv p2 p3 p4 ⟨b1, o1, none⟩ rows.length rows.length us hul (fun j u hj => by rw [Addr.add_lit]; exact (hc1 j u hj).1) ⟨b2, o2, none⟩ ys.length cap2 xs hxl hnews (by omega) (by omega) (growslice_fits (by omega) hby)⟩
  obtain ⟨old, hrun⟩ := hgr
  obtain ⟨hs1, hR1⟩ := hg.sr.kill d
  have hnc := grownCap_ge w (rows.length + ys.length) old E
  have hncm := grownCap_le_maxLen w (rows.length + ys.length) old E hm
  have hfl : (rows ++ ys).flatten.length = us.length + xs.length := by rw [List.flatten_append, List.length_append, hlr.1, hlr2.1]
  obtain ⟨hs2, hR2⟩ := hs1.newArr d E i.size (grownCap w (rows.length + ys.length) old E) (rows := rows ++ ys) (cur := us.toArray ++ xs.toArray ++ Builtin.zeroCells zv.cells (grownCap w (rows.length + ys.length) old E - (rows.length + ys.length)))
    (fun r hr => by
      rcases List.mem_append.1 hr with hr | hr
      · exact hw0 r hr
      · exact hw2 r hr)
    (fun c hc => by
      rw [List.flatten_append] at hc
      rcases List.mem_append.1 hc with hc | hc
      · exact h1c c hc
      · exact h1c2 c hc)
    (by
      have e1 : (us.toArray ++ xs.toArray ++ Builtin.zeroCells zv.cells (grownCap w (rows.length + ys.length) old E - (rows.length + ys.length))).toList.take (rows ++ ys).flatten.length = us ++ xs := by
        rw [Array.toList_append, Array.toList_append, hfl, ← List.length_append]
        exact List.take_left
      rw [e1, List.flatten_append]
      exact (hlr.imp fun _ _ h => h.mono hR1).append (hlr2.imp fun _ _ h => h.mono hR1)) (by rw [List.length_append]; exact hnc) hncm
    (by
      simp only [Array.size_append, List.size_toArray, size_zeroCells, p5, hul, hxl, ← Nat.add_mul]
      congr 1
      omega) (hnom_kill d h1) (by have := hga.n.2; omega) (w.drew.alloc (.cells (us.toArray ++ xs.toArray ++ Builtin.zeroCells zv.cells (grownCap w (rows.length + ys.length) old E - (rows.length + ys.length))) E)) rfl (hg.sr.ext.drew.alloc _)
  rw [List.length_append] at hs2 hR2
  refine wp_value (run_appendOp hrun) (hn _ hK _ _ _ ⟨by simpa [Act.put] using hga.n, hga.d, hs2, TR.put ?_ (by rw [hga.n.1]; exact hd) ?_⟩)
  · exact (((hg.tr.kill d).mono hR1).mono hR2).env d (tnom_kill d st.t) (fun _ hi => Env.upd_blk' hi) (fun _ hi => Env.upd_sv' hi)
  · have := VR.ow (Rd := RDx w0 Rd0 (e1.upd d (some w.heap.size) (.slice (some ⟨w.heap.size, 0, none⟩) (rows.length + ys.length) (grownCap w (rows.length + ys.length) old E)) 0) ((d, some (.arr E i.size (rows ++ ys) true)) :: hkill d h1) (w.drew.alloc (.cells (us.toArray ++ xs.toArray ++ Builtin.zeroCells zv.cells (grownCap w (rows.length + ys.length) old E - (rows.length + ys.length))) E))) (e := e1.upd d (some w.heap.size) (.slice (some ⟨w.heap.size, 0, none⟩) (rows.length + ys.length) (grownCap w (rows.length + ys.length) old E)) 0) (k := d)
    rw [Env.upd_sv] at this
    exact this
end
end Go.Proofs.Ytggnolfcgaglfaa
