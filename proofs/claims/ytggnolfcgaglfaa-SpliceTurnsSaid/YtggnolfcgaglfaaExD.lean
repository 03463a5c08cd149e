/- Stores into rows of the call's own; operations that make or write, reckoned. -/
import Derived.Test.YtggnolfcgaglfaaExC
set_option linter.unusedVariables false
set_option linter.unusedSimpArgs false
namespace Go.Proofs.Ytggnolfcgaglfaa
open Go Go.RowKit
noncomputable section

theorem flatten_set {sz : Nat} : ∀ (rows : List (List AV)) (i o : Nat) (r : List AV) (c : AV), (∀ r ∈ rows, r.length = sz) → rows[i]? = some r → o < sz → (rows.set i (r.set o c)).flatten = rows.flatten.set (i * sz + o) c
  | [], i, o, r, c, _, h, _ => by simp at h
  | q :: rows, 0, o, r, c, hw, h, ho => by
    simp at h; subst h
    have := hw q (by simp)
    simp only [List.set_cons_zero, List.flatten_cons, Nat.zero_mul, Nat.zero_add]
    rw [List.set_append_left _ _ (by omega)]
  | q :: rows, i + 1, o, r, c, hw, h, ho => by
    have hq := hw q (by simp)
    have ih := flatten_set rows i o r c (fun x hx => hw x (by simp [hx])) (by simpa using h) ho
    simp only [List.set_cons_succ, List.flatten_cons]
    rw [ih, List.set_append_right _ _ (by rw [hq, Nat.add_mul]; omega), hq]
    congr 2
    rw [Nat.add_mul]; omega
theorem flatten_lt {sz : Nat} {rows : List (List AV)} {i o : Nat} {r : List AV} (hw : ∀ r ∈ rows, r.length = sz) (h : rows[i]? = some r) (ho : o < sz) : i * sz + o < rows.flatten.length := by
  rw [flatten_len hw]
  have hi := (List.getElem?_eq_some_iff.1 h).1
  have : (i + 1) * sz ≤ rows.length * sz := Nat.mul_le_mul_right _ hi
  rw [Nat.add_mul] at this
  omega
section
variable {P : Program}
/-- stores into an element of a row, one after the other -/
theorem Ga.storeArr {w0 : Bs} {Rd0 : Nat → Nat → Value → Prop} {k b : Nat} {t : TypeId} {sz : Nat} {i : Nat} : ∀ (xs : List AV) (us : List Value) (o : Nat) {st : St} {e : Env} {a : Act} {w : World} {rows : List (List AV)} {r : List AV} (h : Ga w0 Rd0 e st a w) (hk : hget st.h k = some (.arr t sz rows true)) (hb : e.blk k = some b)
    (hr : rows[i]? = some r) (hl : LR (VR (RDx w0 Rd0 e st.h w) none) xs us) (h1 : ∀ c ∈ xs, c.one = true) (hlen : o + xs.length ≤ sz) (m : Nat) (o0 : Nat) (ho : o0 + m = i * sz + o),
    ∃ e' w' h', (storeCells ⟨b, o0, none⟩ us m).run P w = .ok () w' ∧ Ga w0 Rd0 e' ⟨st.n, st.t, h'⟩ a w' ∧ hget h' k = some (.arr t sz (rows.set i (setCells r o xs)) true) ∧ ∀ j, j ≠ k → hget h' j = hget st.h j
  | [], [], o, st, e, a, w, rows, r, h, hk, hb, hr, hl, h1, hlen, m, o0, ho => by
    refine ⟨e, w, st.h, rfl, h, ?_, fun _ _ => rfl⟩
    rw [hk, setCells]
    have : rows.set i r = rows := by
      obtain ⟨hi, rfl⟩ := List.getElem?_eq_some_iff.1 hr
      exact List.set_getElem_self hi
    rw [this]
  | x :: xs, u :: us, o, st, e, a, w, rows, r, h, hk, hb, hr, hl, h1, hlen, m, o0, ho => by
    have hx : VR (RDx w0 Rd0 e st.h w) none x u := hl.2 0 x u rfl rfl
    have hl' : LR (VR (RDx w0 Rd0 e st.h w) none) xs us := ⟨by simpa using hl.1, fun j c v hc hv => hl.2 (j + 1) c v (by simpa using hc) (by simpa using hv)⟩
    obtain ⟨hw0, h1c, hl0, hrow⟩ := h.sr.ob _ _ hk
    simp only [List.length_cons] at hlen
    have hrl := hw0 r (List.mem_of_getElem? hr)
    have hfs := flatten_set rows i o r x hw0 hr (by omega)
    have hlt := flatten_lt hw0 hr (o := o) (by omega)
    obtain ⟨hi, hri⟩ := List.getElem?_eq_some_iff.1 hr
    have hw1 : ∀ q ∈ rows.set i (r.set o x), q.length = sz := fun q hq => by
      rcases List.mem_or_eq_of_mem_set hq with hq | rfl
      · exact hw0 q hq
      · simpa using hrl
    obtain ⟨hs, hR⟩ := h.sr.storeArr (rows' := rows.set i (r.set o x)) hk hb (i * sz + o) hx (h1 x (by simp)) (by simp) hw1 hfs hlt
    have hbe : ∀ j, (e.upd k (some b) (e.sv k) 0).blk j = e.blk j := fun j => by by_cases hj : j = k <;> simp [Env.upd, hj, hb]
    have hse : ∀ j, (e.upd k (some b) (e.sv k) 0).sv j = e.sv j := fun j => by by_cases hj : j = k <;> simp [Env.upd, hj]
    have hg : Ga w0 Rd0 (e.upd k (some b) (e.sv k) 0) ⟨st.n, st.t, (k, some (.arr t sz (rows.set i (r.set o x)) true)) :: st.h⟩ a (w.setCell ⟨b, i * sz + o, none⟩ u) := ⟨h.n, h.d, hs, (h.tr.mono hR).envEq hbe hse⟩
    obtain ⟨e', w', h', hrun, hg', hk', hh'⟩ := Ga.storeArr (i := i) xs us (o + 1) hg hget_same Env.upd_blk (r := r.set o x) (by rw [List.getElem?_set]; simp [hi]) (hl'.imp fun _ _ hv => hv.mono hR) (fun c hc => h1 c (by simp [hc])) (by omega) (m + 1) o0 (by omega)
    refine ⟨e', w', h', ?_, hg', ?_, fun j hj => by rw [hh' j hj, hget_other hj]⟩
    · have hadd : (⟨b, o0, none⟩ : Addr).add m = ⟨b, i * sz + o, none⟩ := by rw [Addr.add_lit, ho]
      rcases hrow with ⟨hnil, _⟩ | ⟨b1, cap, cur, hb1, hsv, hcap, hm, hcur, hcs, hlr, hle⟩
      · rw [hnil] at hr; simp at hr
      obtain rfl := Option.some.inj (hb1.symm.trans hb)
      have hlt2 : i * sz + o < cur.size := by
        have := hlr.1
        rw [List.length_take] at this
        have h2 : cur.toList.length = cur.size := by simp
        omega
      have hcell : w.cell? ⟨b1, i * sz + o, none⟩ = some cur[i * sz + o] := by
        rw [cell_of_row w b1 _ cur t (0, 0) hcur]; simp [hlt2]
      have hfr := frozen_of_row w b1 (i * sz + o) cur t hcur
      have hone : u.oneCell' = true := hx.oneCell (h1 x (by simp)) (fun e k he => by cases he)
      have hst : (store ⟨b1, i * sz + o, none⟩ u).run P w = .ok () (w.setCell ⟨b1, i * sz + o, none⟩ u) := by
        cases u <;> simp_all [store, Sem.run, Value.oneCell']
      simp only [storeCells, Sem.run_bind, hadd, hst, Result.andThen_ok]
      exact hrun
    · rw [hk', List.set_set]; rfl
  | [], u :: us, _, _, _, _, _, _, _, _, _, _, _, hl, _, _, _, _, _ => by have := hl.1; simp at this
  | x :: xs, [], _, _, _, _, _, _, _, _, _, _, _, hl, _, _, _, _, _ => by have := hl.1; simp at this

variable {st : St} {d : Nat} {ty : TypeId} {pos : String} {af : Array Edge} {gd : Option (Nat × Bool)} {K : St → Prop}
/-- STORE into an element of a row of the call's own -/
theorem SS.storeRow {t bt : TypeId} {x y : Operand} {k i sz o : Nat} {h1 : Hp} {rows : List (List AV)} {r xs : List AV} {c : AV} {ag : Bool} {n : Nat} (hp : st.ev x = .pe k i sz o) (hl : lendA st.h (st.ev y) = some (h1, c)) (hk : hget h1 k = some (.arr bt sz rows true)) (hr : rows[i]? = some r)
    (ht : tyA P t = some (ag, n)) (hc : cellsOf c = some xs) (hn : xs.length = n) (hx1 : xs.all AV.one = true) (hlen : o + n ≤ sz) (hK : K ⟨st.n, st.t, (k, some (.arr bt sz (rows.set i (setCells r o xs)) true)) :: h1⟩) :
    SS P ⟨none, .store t x y, ty, pos, af, gd⟩ st K := by
  intro w0 Rd0 e a w next Q h hn'
  obtain ⟨e1, len, hv⟩ := lendA_ok h.sr (h.ev y) hl
  have h2 := h.lent len
  obtain ⟨us, hu, hlr⟩ := cellsOf_none hc hv
  have hvx := h2.ev x
  have hpx : (St.mk st.n st.t h1).ev x = .pe k i sz o := by
    cases x <;> exact hp
  rw [hpx] at hvx
  generalize hax : a.eval x = u at hvx
  cases hvx with
  | @pe _ _ _ _ _ b hb =>
    obtain ⟨td, j, g2, g3, _, rfl⟩ := tyA_parts ht
    obtain ⟨e', w', h', hrun, hg, hk', hh⟩ := Ga.storeArr (P := P) xs us o h2 hk hb hr hlr (fun c hc => List.all_eq_true.1 hx1 c hc) (by omega) 0 (i * sz + o) rfl
    refine wp_none (w' := w') ?_ (hn' _ hK _ _ _ (hg.ext_heap (fun j => by
      by_cases hj : j = k
      · subst hj; rw [hget_same]; exact hk'.symm
      · rw [hget_other hj]; exact (hh j hj).symm)))
    have hsz : us.length = j.size := by rw [hlr.1]; exact hn
    simp [execOp, Instr.storeAt, Instr.sureAddr, hax, storeVar, hu, run_sizeOf' w g3, hsz, hrun]

/-! ### objects known as less -/
theorem OR.wkRow {Rd : Nat → Nat → Value → Prop} {e : Env} {w : World} {k : Nat} {t : TypeId} {sz : Nat} {rows rows' : List (List AV)} {wr : Bool} (hw : WkR rows rows') (h1 : ∀ c ∈ rows'.flatten, c.one = true) (h : OR Rd e w k (.arr t sz rows wr)) : OR Rd e w k (.arr t sz rows' wr) := by
  obtain ⟨a1, a2, a3, a4⟩ := h
  refine ⟨hw.wid a1, h1, a3, ?_⟩
  rcases a4 with ⟨rfl, b2, b3⟩ | ⟨b, cap, cur, b1, b2, b3, b4, b5, b6, b7, b8⟩
  · cases hw
    exact .inl ⟨rfl, b2, b3⟩
  · have hl := hw.flat.len
    exact .inr ⟨b, cap, cur, b1, by rw [hw.len]; exact b2, by rw [hw.len]; exact b3, b4, b5, b6, by rw [hl]; exact hw.flat.lr b7, by rw [hl]; exact b8⟩
theorem SLe.wkOb {n : Nat} {tt : List (Nat × AV)} {k : Nat} {o o' : Ob} {h : Hp} (ho : ∀ Rd e w, OR Rd e w k o → OR Rd e w k o') : SLe P ⟨n, tt, (k, some o) :: h⟩ ⟨n, tt, (k, some o') :: h⟩ := by
  intro w0 Rd0 e a w hg
  have ex : ∀ j, (∃ ob, hget ((k, some o) :: h) j = some ob) ↔ ∃ ob, hget ((k, some o') :: h) j = some ob := fun j => by
    by_cases hj : j = k
    · subst hj; simp [hget]
    · simp [hget, hj]
  have hR : ∀ b o1 u, RDx w0 Rd0 e ((k, some o) :: h) w b o1 u ↔ RDx w0 Rd0 e ((k, some o') :: h) w b o1 u := fun b o1 u => by
    unfold RDx
    refine and_congr Iff.rfl (and_congr Iff.rfl ⟨fun hh j ob hob hb => ?_, fun hh j ob hob hb => ?_⟩)
    · obtain ⟨ob', h'⟩ := (ex j).2 ⟨ob, hob⟩
      exact hh j ob' h' hb
    · obtain ⟨ob', h'⟩ := (ex j).1 ⟨ob, hob⟩
      exact hh j ob' h' hb
  refine ⟨e, hg.n, hg.d, ⟨hg.sr.ext, hg.sr.good, fun j ob hob => ?_, fun j ob b hob hb => ?_, fun j j' ob ob' b h1 h2 b1 b2 => ?_, hg.sr.pin⟩, hg.tr.mono fun b o u => (hR b o u).1⟩
  · refine OR.mono (fun b o u => (hR b o u).1) ?_
    by_cases hj : j = k
    · subst hj
      rw [hget_same] at hob
      cases hob
      exact ho _ _ _ (hg.sr.ob j o hget_same)
    · rw [hget_other hj] at hob
      exact hg.sr.ob j ob (by rw [hget_other hj]; exact hob)
  · obtain ⟨ob1, g1⟩ := (ex j).2 ⟨ob, hob⟩
    exact hg.sr.base j ob1 b g1 hb
  · obtain ⟨ob1, g1⟩ := (ex j).2 ⟨ob, h1⟩
    obtain ⟨ob2, g2⟩ := (ex j').2 ⟨ob', h2⟩
    exact hg.sr.inj j j' ob1 ob2 b g1 g2 b1 b2
theorem SLe.wkRow {n : Nat} {tt : List (Nat × AV)} {k : Nat} {t : TypeId} {sz : Nat} {rows rows' : List (List AV)} {wr : Bool} {h : Hp} (hw : WkR rows rows') (h1 : ∀ c ∈ rows'.flatten, c.one = true) :
    SLe P ⟨n, tt, (k, some (.arr t sz rows wr)) :: h⟩ ⟨n, tt, (k, some (.arr t sz rows' wr)) :: h⟩ := SLe.wkOb fun _ _ _ h => h.wkRow hw h1
/-- a slot known as less -/
theorem SLe.wkT {n : Nat} {tt : List (Nat × AV)} {i : Nat} {c c' : AV} {h : Hp} (hw : Wk c c') : SLe P ⟨n, (i, c) :: tt, h⟩ ⟨n, (i, c') :: tt, h⟩ := by
  intro w0 Rd0 e a w hg
  refine ⟨e, hg.n, hg.d, hg.sr, fun j => ?_⟩
  have := hg.tr j
  by_cases hj : j = i
  · subst hj
    simp only [tget, if_true] at this ⊢
    exact hw _ _ _ this
  · simp only [tget, hj, if_false] at this ⊢
    exact this
end
end
end Go.Proofs.Ytggnolfcgaglfaa
