/- Functions that are made; rows whose cells may be slices of the call's own. -/
import Derived.Test.YtggnolfcgaglfaaSymT
set_option linter.unusedVariables false
set_option linter.unusedSimpArgs false
namespace Go.Proofs.Ytggnolfcgaglfaa
open Go Go.RowKit
section
variable {P : Program} {st : St} {d : Nat} {dd : Option Nat} {ty : TypeId} {pos : String} {af : Array Edge} {gd : Option (Nat × Bool)} {K : St → Prop}
theorem RS.makeFunc {fn : Fn} {fs cs : Array Operand} : RS P ⟨dd, .makeFunc fn fs cs, ty, pos, af, gd⟩ st (.cl fn (fs.toList.map st.ev) (cs.toList.map st.ev)) := fun w0 Rd0 e a w h => by
  refine ⟨.func fn (fs.map a.eval) (cs.map a.eval), ?_, fun w' _ => by simp [execOp, Instr.makeFunc]⟩
  have h1 := h.args fs
  have h2 := h.args cs
  have := VR.cl (fn := fn) _ _ h1.1 h2.1 h1.2 h2.2
  have e1 : ∀ xs : Array Operand, (xs.toList.map a.eval).toArray = xs.map a.eval := fun xs => by rw [← Array.toList_map]
  rw [e1, e1] at this
  exact this

/-- it is no nil -/
def nnA : AV → Bool
  | .pt _ _ => true
  | .pe _ _ _ _ => true
  | .fp _ => true
  | .cl (.func _) _ _ => true
  | _ => false
theorem RS.nilCheck {x : Operand} (hx : nnA (st.ev x) = true) : RS P ⟨dd, .nilCheck x, ty, pos, af, gd⟩ st (st.ev x) := fun w0 Rd0 e a w h => by
  refine ⟨a.eval x, h.ev x, fun w' _ => ?_⟩
  have hv := h.ev x
  generalize st.ev x = c at hx hv
  generalize hax : a.eval x = u at hv
  cases hv with
  | pt hb => simp [execOp, hax]
  | pe hb => simp [execOp, hax]
  | fp us hl hc ha => simp [execOp, hax]
  | @cl _ fn fs cs us xs hl hl2 hc hc2 =>
    cases fn with
    | func f => simp [execOp, hax]
    | _ => simp [nnA] at hx
  | _ => simp [nnA] at hx

/-! ### rows, cell by cell -/
theorem OR.toNr {Rd : Nat → Nat → Value → Prop} {e : Env} {w : World} {k : Nat} {t : TypeId} {rows : List (List AV)} (h : OR Rd e w k (.arr t 1 rows true)) : OR Rd e w k (.nr t rows.flatten) := by
  obtain ⟨h1, h2, h3, h4⟩ := h
  have hl : rows.flatten.length = rows.length := by rw [flatten_len h1, Nat.mul_one]
  refine ⟨h3 rfl, ?_⟩
  rcases h4 with ⟨rfl, a2, a3⟩ | ⟨b, cap, cur, a1, a2, a3, a4, a5, a6, a7, a8⟩
  · exact .inl ⟨rfl, a2, a3⟩
  · exact .inr ⟨b, cap, cur, a1, by rw [hl]; exact a2, by rw [hl]; exact a3, a4, a5, by rw [a6, Nat.mul_one], a7.imp fun _ _ hv => hv.some_of_none⟩
theorem flatten_single (cs : List AV) : (cs.map fun c => [c]).flatten = cs := by
  induction cs with
  | nil => rfl
  | cons c cs ih => simp [ih]
theorem OR.ofNr {Rd : Nat → Nat → Value → Prop} {e : Env} {w : World} {k : Nat} {t : TypeId} {cs : List AV} (h : OR Rd e w k (.nr t cs)) (hf : ∀ c ∈ cs, c.fz = true) (h1 : ∀ c ∈ cs, c.one = true) (wr : Bool) : OR Rd e w k (.arr t 1 (cs.map fun c => [c]) wr) := by
  obtain ⟨h0, h3⟩ := h
  refine ⟨fun r hr => ?_, by rw [flatten_single]; exact h1, fun _ => h0, ?_⟩
  · obtain ⟨c, _, rfl⟩ := List.mem_map.1 hr
    rfl
  · rcases h3 with ⟨rfl, a2, a3⟩ | ⟨b, cap, cur, a1, a2, a3, a4, a5, a6, a7⟩
    · exact .inl ⟨rfl, a2, a3⟩
    · refine .inr ⟨b, cap, cur, a1, by rw [List.length_map]; exact a2, by rw [List.length_map]; exact a3, a4, a5, by rw [a6, Nat.mul_one], ?_, by rw [h0]; exact Nat.zero_le _⟩
      rw [flatten_single]
      exact ⟨a7.1, fun j c u hc hu => (a7.2 j c u hc hu).none_of_fz (hf c (List.mem_of_getElem? hc))⟩
theorem OR.wkNr {Rd : Nat → Nat → Value → Prop} {e : Env} {w : World} {k : Nat} {t : TypeId} {cs cs' : List AV} (hl : cs'.length = cs.length) (hw : ∀ (j : Nat) c c', cs[j]? = some c → cs'[j]? = some c' → ∀ u, VR Rd (some e) c u → VR Rd (some e) c' u) (h : OR Rd e w k (.nr t cs)) : OR Rd e w k (.nr t cs') := by
  obtain ⟨h0, h3⟩ := h
  refine ⟨h0, ?_⟩
  rcases h3 with ⟨rfl, a2, a3⟩ | ⟨b, cap, cur, a1, a2, a3, a4, a5, a6, a7⟩
  · exact .inl ⟨List.eq_nil_of_length_eq_zero hl, a2, a3⟩
  · refine .inr ⟨b, cap, cur, a1, by rw [hl]; exact a2, by rw [hl]; exact a3, a4, a5, a6, ⟨by rw [hl]; exact a7.1, fun j c' u hc' hu => ?_⟩⟩
    rw [hl] at hu
    have hj : j < cs.length := by rw [← hl]; exact (List.getElem?_eq_some_iff.1 hc').1
    exact hw j _ c' (List.getElem?_eq_getElem hj) hc' u (a7.2 j _ u (List.getElem?_eq_getElem hj) hu)

theorem RS.indexNr {t E : TypeId} {x y : Operand} {by_ : Nat} {z : List Value} {cs : List AV} {k : IntKind} {i : Int} {kk : Nat}
    (ht : elA P t = some (E, 1, by_, z)) (hx : st.ev x = .ow kk) (hk : hget st.h kk = some (.nr E cs)) (hy : st.ev y = .v (.int k i)) (h0 : 0 ≤ i) (h1 : i < cs.length) :
    RS P ⟨dd, .indexAddr t x y, ty, pos, af, gd⟩ st (.pe kk i.toNat 1 0) := fun w0 Rd0 e a w h => by
  obtain ⟨inf, zv, h1', h2, h3, h4, h5, _, _⟩ := elA_parts ht
  have hvx := h.ev x
  rw [hx] at hvx
  have hvy := h.ev y
  rw [hy] at hvy
  have hvy := hvy.v_inv
  obtain ⟨_, hrow⟩ := h.sr.ob _ _ hk
  rcases hrow with ⟨hnil, hbn, _⟩ | ⟨b1, cap, cur, hb1, hsv, hcap, hm, hcur, hcs, hlr⟩
  · subst hnil; simp at h1; omega
  have hav : a.eval x = .slice (some ⟨b1, 0, none⟩) cs.length cap := by
    generalize hax : a.eval x = u at hvx
    cases hvx with
    | ow => exact hsv
  refine ⟨.pointer (some ⟨b1, i.toNat * 1 + 0, none⟩), .pe hb1, fun w' hxx => ?_⟩
  have hadd : (⟨b1, 0, none⟩ : Addr).add (i.toNat * inf.size) = ⟨b1, i.toNat, none⟩ := by rw [h5, Addr.add_lit, Nat.zero_add, Nat.mul_one]
  simp [execOp, Instr.indexAt, hvy, asIntOf, run_underlying h1', hav, h0, h1, run_sizeOf' w' h2, hadd]
/-- a store into a cell -/
theorem SR.storeNr {w0 : Bs} {w : World} {Rd0 : Nat → Nat → Value → Prop} {e : Env} {h : Hp} (hs : SR w0 Rd0 e h w) {k : Nat} {t : TypeId} {cs : List AV} {b : Nat} (hk : hget h k = some (.nr t cs)) (hb : e.blk k = some b) (o : Nat) {c : AV} {u : Value}
    (hv : VR (RDx w0 Rd0 e h w) (some e) c u) :
    SR w0 Rd0 (e.upd k (some b) (e.sv k) 0) ((k, some (.nr t (cs.set o c))) :: h) (w.setCell ⟨b, o, none⟩ u) ∧
    ∀ b' o' u', RDx w0 Rd0 e h w b' o' u' → RDx w0 Rd0 (e.upd k (some b) (e.sv k) 0) ((k, some (.nr t (cs.set o c))) :: h) (w.setCell ⟨b, o, none⟩ u) b' o' u' := by
  obtain ⟨hl0, hrow⟩ := hs.ob _ _ hk
  have hbase := hs.base _ _ _ hk hb
  rcases hrow with ⟨hnil, hbn, _⟩ | ⟨b1, cap, cur, hb1, hsv, hcap, hm, hcur, hcs, hlr⟩
  · rw [hbn] at hb; cases hb
  obtain rfl : b1 = b := Option.some.inj (hb1.symm.trans hb)
  refine hs.turn k (some b1) (e.sv k) 0 _ (hs.ext.setCell hbase.1 _) (.inr ⟨hb.symm, rfl⟩) (by simp) (fun b' hb' hne => heap_setCell_other w _ _ _ (fun hh => hne _ hk (by rw [hb]; exact congrArg some hh.symm))) (fun b' hb' _ => ?_) (fun b' o' u' ob ho hb' hlt hcell => ?_) (fun Rd hR _ ob' hob' => ?_)
  · obtain rfl := Option.some.inj hb'
    exact ⟨hbase.1, by simp; exact hbase.2, .inl ⟨_, hk, hb⟩⟩
  · rw [hl0] at hlt; omega
  · obtain rfl := Option.some.inj hob'
    have hbe : ∀ j, (e.upd k (some b1) (e.sv k) 0).blk j = e.blk j := fun j => by by_cases hj : j = k <;> simp [Env.upd, hj, hb]
    have hse : ∀ j, (e.upd k (some b1) (e.sv k) 0).sv j = e.sv j := fun j => by by_cases hj : j = k <;> simp [Env.upd, hj]
    refine ⟨Env.upd_lent, .inr ⟨b1, cap, cur.setIfInBounds o u, Env.upd_blk, by rw [Env.upd_sv, List.length_set]; exact hsv, by rw [List.length_set]; exact hcap, hm, heap_setCell_same w b1 o cur t u hcur, by simpa using hcs, ?_⟩⟩
    rw [List.length_set, Array.toList_setIfInBounds, List.take_set]
    have h1 : LR (VR Rd (some (e.upd k (some b1) (e.sv k) 0))) cs (cur.toList.take cs.length) := ⟨hlr.1, fun i c u h1 h2 => ((hlr.2 i c u h1 h2).mono hR).envEq rfl hbe hse⟩
    exact h1.set o ((hv.mono hR).envEq rfl hbe hse)
theorem SS.storeNr {t bt : TypeId} {x y : Operand} {k i : Nat} {cs : List AV} {c : AV} {ag : Bool} (hp : st.ev x = .pe k i 1 0) (hk : hget st.h k = some (.nr bt cs)) (ht : tyA P t = some (ag, 1)) (hc : cellsOf (st.ev y) = some [c])
    (h1 : c.one = true) (ho : owOk st.h (st.ev y) = true) (ho2 : owOk st.h c = true) (hi : i < cs.length) (hK : K ⟨st.n, st.t, (k, some (.nr bt (cs.set i c))) :: st.h⟩) :
    SS P ⟨none, .store t x y, ty, pos, af, gd⟩ st K := by
  intro w0 Rd0 e a w next Q h hn'
  obtain ⟨us, hu, hlr⟩ := cellsOf_ok hc (h.ev y) (h.owOk ho)
  have hvx := h.ev x
  rw [hp] at hvx
  generalize hax : a.eval x = u at hvx
  cases hvx with
  | @pe _ _ _ _ _ b hb =>
    obtain ⟨td, inf, h2, h3, _, hsz⟩ := tyA_parts ht
    obtain ⟨v, rfl⟩ : ∃ v, us = [v] := by
      match us, hlr.1 with
      | [v], _ => exact ⟨v, rfl⟩
    have hv : VR (RDx w0 Rd0 e st.h w) (some e) c v := hlr.2 0 c v rfl rfl
    have hone : v.oneCell' = true := hv.oneCell h1 fun e' k' he hk' => by cases he; exact h.owOk ho2 k' hk'
    obtain ⟨hs, hR⟩ := h.sr.storeNr hk hb i hv
    obtain ⟨hl0, hrow⟩ := h.sr.ob _ _ hk
    rcases hrow with ⟨hnil, hbn, _⟩ | ⟨b1, cap, cur, hb1, hsv, hcap, hm, hcur, hcs, hlr1⟩
    · rw [hbn] at hb; cases hb
    obtain rfl := Option.some.inj (hb1.symm.trans hb)
    have hbe : ∀ j, (e.upd k (some b1) (e.sv k) 0).blk j = e.blk j := fun j => by by_cases hj : j = k <;> simp [Env.upd, hj, hb]
    have hse : ∀ j, (e.upd k (some b1) (e.sv k) 0).sv j = e.sv j := fun j => by by_cases hj : j = k <;> simp [Env.upd, hj]
    refine wp_none (w' := w.setCell ⟨b1, i, none⟩ v) ?_ (hn' _ hK _ _ _ ⟨h.n, h.d, hs, (h.tr.mono hR).envEq hbe hse⟩)
    have hlt : i < cur.size := by omega
    have hcell : w.cell? ⟨b1, i, none⟩ = some cur[i] := by
      rw [cell_of_row w b1 i cur bt (0, 0) hcur]; simp [hlt]
    have hfr := frozen_of_row w b1 i cur bt hcur
    have hst : (store ⟨b1, i, none⟩ v).run P w = .ok () (w.setCell ⟨b1, i, none⟩ v) := by
      cases v <;> simp_all [store, Sem.run, Value.oneCell']
    have hadd : (⟨b1, i * 1 + 0, none⟩ : Addr).add 0 = ⟨b1, i, none⟩ := by rw [Addr.add_lit]; simp
    have hrun : (storeCells ⟨b1, i * 1 + 0, none⟩ [v] 0).run P w = .ok () (w.setCell ⟨b1, i, none⟩ v) := by
      simp only [storeCells, Sem.run_bind, hadd, hst, Result.andThen_ok, Sem.run_pure]
    simp only [Nat.mul_one, Nat.add_zero] at hrun
    simp [execOp, Instr.storeAt, Instr.sureAddr, hax, storeVar, hu, run_sizeOf' w h3, ← hsz, hrun]
end
end Go.Proofs.Ytggnolfcgaglfaa
