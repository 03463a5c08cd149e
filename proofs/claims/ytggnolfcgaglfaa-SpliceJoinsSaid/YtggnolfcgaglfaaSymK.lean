/- Slices: cut, appended to, made, written. -/
import Derived.Test.YtggnolfcgaglfaaSymJ
set_option linter.unusedVariables false
set_option linter.unusedSimpArgs false
namespace Go.Proofs.Ytggnolfcgaglfaa
open Go Go.RowKit

theorem flatten_take_of {sz : Nat} : ∀ (rows : List (List AV)) (h : Nat), (∀ r ∈ rows, r.length = sz) → (rows.take h).flatten = rows.flatten.take (h * sz)
  | [], h, _ => by simp
  | r :: rows, 0, _ => by simp
  | r :: rows, h + 1, hw => by
    have hr := hw r (by simp)
    rw [List.take_succ_cons, List.flatten_cons, List.flatten_cons, flatten_take_of rows h (fun x hx => hw x (by simp [hx])), Nat.add_mul, Nat.one_mul, List.take_append]
    rw [List.take_of_length_le (l := r) (by omega), hr, Nat.add_sub_cancel]
theorem flatten_drop_of {sz : Nat} : ∀ (rows : List (List AV)) (h : Nat), (∀ r ∈ rows, r.length = sz) → (rows.drop h).flatten = rows.flatten.drop (h * sz)
  | [], h, _ => by simp
  | r :: rows, 0, _ => by simp
  | r :: rows, h + 1, hw => by
    have hr := hw r (by simp)
    rw [List.drop_succ_cons, List.flatten_cons, flatten_drop_of rows h (fun x hx => hw x (by simp [hx])), Nat.add_mul, Nat.one_mul, List.drop_append]
    rw [List.drop_of_length_le (l := r) (by omega), hr, Nat.add_sub_cancel, List.nil_append]

theorem pieceA_ok {Rd : Nat → Nat → Value → Prop} {E E' : Option Env} {tt : Bool} {sz : Nat} {rows : List (List AV)} {v : Value} (hv : VR Rd E (.sl tt sz rows) v) {l h : Nat} {m : Option Nat} (h1 : l ≤ h) (h2 : h ≤ rows.length) (hm : ∀ x, m = some x → h ≤ x ∧ x ≤ rows.length) :
    ∃ ad cap, v = .slice ad rows.length cap ∧ rows.length ≤ cap ∧ VR Rd E' (pieceA tt rows sz l h m) (.slice (if m.getD cap = l then ad else ad.map (·.add (l * sz))) (h - l) (m.getD cap - l)) := by
  obtain ⟨ad, cap, us, rfl, hw, h1c, hlr, hcap, hmx, htt, ha⟩ := hv.sl_inv
  refine ⟨ad, cap, rfl, hcap, ?_⟩
  have hml : h ≤ m.getD cap ∧ m.getD cap ≤ cap := by
    cases m with
    | none => simp; omega
    | some x => have := hm x rfl; simp; omega
  have hfl : ((rows.take h).drop l).flatten = (rows.flatten.take (h * sz)).drop (l * sz) := by
    rw [flatten_drop_of _ _ (fun r hr => hw r (List.mem_of_mem_take hr)), flatten_take_of _ _ hw]
  have hlen : ((rows.take h).drop l).length = h - l := by simp; omega
  have hsub := (hlr.take (h * sz)).drop (l * sz)
  rw [← hfl] at hsub
  have := VR.sl (E := E') (Rd := Rd) (tight := pieceT tt rows.length h m) (a := if m.getD cap = l then ad else ad.map (·.add (l * sz))) (cap := m.getD cap - l) (rows := (rows.take h).drop l) (sz := sz) ((us.take (h * sz)).drop (l * sz))
    (fun r hr => hw r (List.mem_of_mem_take (List.mem_of_mem_drop hr))) (fun c hc => by
      rw [hfl] at hc
      exact h1c c (List.mem_of_mem_take (List.mem_of_mem_drop hc))) hsub.1 hsub.2 (by rw [hlen]; omega) (by omega) (fun htight => ?_) (fun hne => ?_)
  · rw [hlen] at this
    exact this
  · rw [hlen]
    cases m with
    | none =>
      simp only [pieceT, Bool.and_eq_true, beq_iff_eq] at htight
      have := htt htight.1
      simp only [Option.getD_none]
      omega
    | some x =>
      simp only [pieceT, beq_iff_eq] at htight
      simp only [Option.getD_some]
      omega
  · have hne1 : us ≠ [] := by rintro rfl; simp at hne
    obtain ⟨b, o, rfl, hc⟩ := ha hne1
    have hlt : l < h := by
      rcases Nat.lt_or_ge l h with hh | hh
      · exact hh
      · have : l = h := by omega
        subst this
        have hcon : (List.drop (l * sz) (List.take (l * sz) us)) = [] := List.drop_eq_nil_of_le (by rw [List.length_take]; omega)
        exact absurd hcon hne
    rw [if_neg (by omega)]
    refine ⟨b, o + l * sz, by simp [Addr.add_lit], fun j u hj => ?_⟩
    rw [List.getElem?_drop, List.getElem?_take] at hj
    split at hj
    · have := hc _ u hj
      rw [Nat.add_assoc]
      exact this
    · cases hj

section
variable {P : Program} {st : St} {d : Nat} {ty : TypeId} {pos : String} {af : Array Edge} {gd : Option (Nat × Bool)} {K : St → Prop}

def mxA (st : St) : Option Operand → Option (Option Nat)
  | none => some none
  | some x => (bndA st 0 (some x)).map some

/-- A PIECE of a slice -/
theorem SS.slice {t E : TypeId} {sz by_ : Nat} {z : List Value} {x : Operand} {lo hi mx : Option Operand} {h' : Hp} {tt : Bool} {rows : List (List AV)} {l h : Nat} {m : Option Nat} (ht : elA P t = some (E, sz, by_, z))
    (hl : lendC st.h (st.ev x) = some (h', .sl tt sz rows)) (hlo : bndA st 0 lo = some l) (hhi : bndA st rows.length hi = some h) (hmx : mxA st mx = some m) (hmh : mx.isSome = true → hi.isSome = true)
    (h1 : l ≤ h) (h2 : h ≤ rows.length) (h3 : ∀ x, m = some x → h ≤ x ∧ x ≤ rows.length) (hd : d < st.n) (hK : K ⟨st.n, (d, pieceA tt rows sz l h m) :: st.t, h'⟩) :
    SS P ⟨some d, .slice t x lo hi mx, ty, pos, af, gd⟩ st K := by
  intro w0 Rd0 e a w next Q hga hn
  obtain ⟨i, zv, p2, p3, p4, p5, rfl, _, _⟩ := elA_parts ht
  obtain ⟨e1, len, hv⟩ := lendC_ok hga.sr (hga.ev x) hl
  obtain ⟨ad, cap, hxv, hcap, hpiece⟩ := pieceA_ok (E' := some e1) hv (m := m) h1 h2 h3
  have hg := hga.lent len
  refine wp_value ?_ (hn _ hK e1 _ _ (hg.put hd hpiece))
  have hmc : h ≤ m.getD cap ∧ m.getD cap ≤ cap := by
    cases m with
    | none => simp; omega
    | some x => have := h3 x rfl; simp; omega
  have := run_slice_all' (P := P) p2 p3 ad rows.length cap l h none (m.getD cap) (lo.map a.eval) (hi.map a.eval) (mx.map a.eval) w
    (by
      cases lo with
      | none => simp [bndA] at hlo; exact .inl ⟨rfl, hlo.symm⟩
      | some y => obtain ⟨k, hk⟩ := bndA_ok hga hlo; exact .inr ⟨k, by simp [hk]⟩)
    (by
      cases hi with
      | none => simp [bndA] at hhi; exact .inl ⟨rfl, hhi.symm⟩
      | some y => obtain ⟨k, hk⟩ := bndA_ok hga hhi; exact .inr ⟨k, by simp [hk]⟩)
    (by
      cases mx with
      | none => simp [mxA] at hmx; subst hmx; exact .inl ⟨rfl, rfl⟩
      | some y =>
        simp only [mxA] at hmx
        obtain ⟨m', hm', rfl⟩ := Option.map_eq_some_iff.1 hmx
        obtain ⟨k, hk⟩ := bndA_ok hga hm'
        refine .inr ⟨⟨k, by simp [hk]⟩, ?_⟩
        have := hmh rfl
        cases hi with
        | none => cases this
        | some y => simp)
    h1 h2 hmc.1 hmc.2 hcap
  simp only [execOp, Sem.run_bind, hxv, this, Result.andThen_ok, Sem.run_pure]

/-! ### make -/
theorem SS.make {t E : TypeId} {sz by_ : Nat} {z : List Value} {x y : Operand} {k1 k2 : IntKind} {n : Nat} (ht : elA P t = some (E, sz, by_, z)) (hx : st.ev x = .v (.int k1 n)) (hy : st.ev y = .v (.int k2 n))
    (hby : by_ * n ≤ 140737488355328) (hm : n ≤ maxLen) (hz1 : z.all Value.oneCell' = true) (hz2 : z.all (fun v => (cvA v).one) = true) (hpos : 0 < sz) (hd : d < st.n)
    (hK : K ⟨st.n, (d, .ow d) :: tkill d st.t, (d, some (.arr E sz (List.replicate n (z.map cvA)) true)) :: hkill d st.h⟩) : SS P ⟨some d, .makeSlice t x y, ty, pos, af, gd⟩ st K := by
  intro w0 Rd0 e a w next Q hga hn
  obtain ⟨i, zv, p2, p3, p4, p5, rfl, rfl, rfl⟩ := elA_parts ht
  have hvx := hga.ev x
  rw [hx] at hvx
  have hvx := hvx.v_inv
  have hvy := hga.ev y
  rw [hy] at hvy
  have hvy := hvy.v_inv
  have hmk := run_make (P := P) w t E i zv p2 p3 p4 k1 k2 n n (by omega) (Int.le_refl _) (by
    have h : ((i.bytes * n : Nat) : Int) ≤ 281474976710656 := by omega
    rwa [Int.natCast_mul] at h) (by unfold maxLen at hm; omega)
  simp only [Int.toNat_natCast] at hmk
  obtain ⟨hs1, hR1⟩ := hga.sr.kill d
  have hzl : zv.cells.toList.length = i.size := by simpa using p5
  have hrows : ∀ r ∈ List.replicate n (zv.cells.toList.map cvA), r.length = i.size := fun r hr => by
    rw [List.eq_of_mem_replicate hr]; simp [p5]
  have hrl : (List.replicate n (zv.cells.toList.map cvA)).length = n := by simp
  have hfl := flatten_len hrows
  rw [hrl] at hfl
  have hget : ∀ (n j : Nat) c, (List.replicate n (zv.cells.toList.map cvA)).flatten[j]? = some c → ∃ v, zv.cells.toList[j % i.size]? = some v ∧ c = cvA v := by
    intro n
    induction n with
    | zero => intro j c h; simp at h
    | succ n ih =>
      intro j c h
      rw [List.replicate_succ, List.flatten_cons] at h
      by_cases hj : j < i.size
      · rw [List.getElem?_append_left (by simpa [p5] using hj), List.getElem?_map] at h
        obtain ⟨v, hv, rfl⟩ := Option.map_eq_some_iff.1 h
        exact ⟨v, by rw [Nat.mod_eq_of_lt hj]; exact hv, rfl⟩
      · rw [List.getElem?_append_right (by simp [p5]; omega)] at h
        have hll : (zv.cells.toList.map cvA).length = i.size := by simpa using p5
        rw [hll] at h
        obtain ⟨v, hv, rfl⟩ := ih _ c h
        refine ⟨v, ?_, rfl⟩
        rw [← hv, Nat.mod_eq_sub_mod (Nat.le_of_not_lt hj)]
  have hcur : ∀ (j : Nat) u, (madeCells zv.cells (n * i.size)).toList[j]? = some u → zv.cells.toList[j % i.size]? = some u := by
    intro j u h
    simp only [madeCells, Array.toList_map, List.getElem?_map] at h
    obtain ⟨y, hy, rfl⟩ := Option.map_eq_some_iff.1 h
    have hjn : j < n * i.size := by
      have := (List.getElem?_eq_some_iff.1 hy).1; simpa using this
    have hyj : y = j := by
      have := (List.getElem?_eq_some_iff.1 hy).2; simpa using this.symm
    subst hyj
    have hlt : y % i.size < i.size := Nat.mod_lt _ hpos
    rw [p5]
    have : y % i.size < zv.cells.size := by rw [p5]; exact hlt
    simp [this]
  obtain ⟨hs2, hR2⟩ := hs1.newArr d E i.size n (rows := List.replicate n (zv.cells.toList.map cvA)) (cur := madeCells zv.cells (n * i.size)) hrows (fun c hc => by
      obtain ⟨j, hj, rfl⟩ := List.getElem_of_mem hc
      obtain ⟨v, hv, hcv⟩ := hget n j _ (List.getElem?_eq_getElem hj)
      rw [hcv]
      exact List.all_eq_true.1 hz2 v (List.mem_of_getElem? hv))
    ⟨by rw [hfl]; simp [size_madeCells, hfl], fun j c u hc hu => by
      obtain ⟨v, hv, rfl⟩ := hget n j c hc
      rw [List.getElem?_take] at hu
      split at hu
      · have := hcur j u hu
        rw [hv] at this
        simp at this
        subst this
        exact cvA_ok v
      · cases hu⟩ (by rw [hrl]; exact Nat.le_refl _) hm (by rw [size_madeCells]) (hnom_kill d st.h) (by have := hga.n.2; omega) (w.alloc (.cells (madeCells zv.cells (n * i.size)) E)) rfl (hga.sr.ext.alloc _)
  rw [hrl] at hs2 hR2
  refine wp_value (v := .slice (some ⟨w.heap.size, 0, none⟩) n n) (w' := w.alloc (.cells (madeCells zv.cells (n * i.size)) E)) ?_ (hn _ hK _ _ _ ⟨by simpa [Act.put] using hga.n, hga.d, hs2, TR.put ?_ (by rw [hga.n.1]; exact hd) ?_⟩)
  · simp only [execOp, Sem.run_bind, hvx, hvy, hmk, Result.andThen_ok, Sem.run_pure]
  · exact (((hga.tr.kill d).mono hR1).mono hR2).env d (tnom_kill d st.t) (fun _ hi => Env.upd_blk' hi) (fun _ hi => Env.upd_sv' hi)
  · have := VR.ow (Rd := RDx w0 Rd0 (e.upd d (some w.heap.size) (.slice (some ⟨w.heap.size, 0, none⟩) n n) 0) ((d, some (.arr E i.size (List.replicate n (zv.cells.toList.map cvA)) true)) :: hkill d st.h) (w.alloc (.cells (madeCells zv.cells (n * i.size)) E))) (e := e.upd d (some w.heap.size) (.slice (some ⟨w.heap.size, 0, none⟩) n n) 0) (k := d)
    rw [Env.upd_sv] at this
    exact this
end
end Go.Proofs.Ytggnolfcgaglfaa
