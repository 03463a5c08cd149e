/- Going through a map. -/
import Derived.Test.YtggnolfcgaglfaaSymS
import Derived.Laws.IdiomRangeMap
set_option linter.unusedVariables false
set_option linter.unusedSimpArgs false
namespace Go.Proofs.Ytggnolfcgaglfaa
open Go Go.RowKit MapKept

def maskI (m : Int) (j : Nat) : Int := ((m.toNat ||| 2 ^ j : Nat) : Int)

/-- 'next', wherever the block lies that goes through the map -/
theorem run_next_at {P : Program} (w : World) (ty : TypeId) (r bm n0 : Nat) (seen : Array Nat) (es : Array MapEntry) (hr : w.heap[r]? = some (.mapIter (some bm) n0 seen n0)) (hb : w.heap[bm]? = some (.map es n0)) (hold : ∀ x ∈ es.toList, x.born < n0) :
    ((leftOf es seen).size = 0 ∧ (Instr.next (.pointer (some ⟨r, 0, none⟩)) false ty).run P w = .ok (.tuple #[.bool false]) w) ∨
    ∃ e ∈ (leftOf es seen).toList, ∃ w1 : World, (w1 = w ∨ w1 = w.drew) ∧ (Instr.next (.pointer (some ⟨r, 0, none⟩)) false ty).run P w = .ok (.tuple #[.bool true, e.key, e.val]) { w1 with heap := w.heap.setIfInBounds r (.mapIter (some bm) n0 (seen.push e.born) n0) } := by
  simp only [Instr.next, getObj, Sem.run_bind, Sem.run, hr, hb, Result.andThen, next_test_false seen es n0 n0 hold (Nat.le_refl _), Bool.false_eq_true, if_false]
  unfold leftOf
  have hmem : ∀ x ∈ (Array.filter (fun e => !seen.contains e.born) es).toList, x.born < n0 := fun x hx => hold x (by simp at hx ⊢; exact hx.1)
  generalize Array.filter (fun e => !seen.contains e.born) es = L at hmem ⊢
  have e1 : L.filter (fun x => decide (x.born < n0)) = L := Array.filter_eq_self.2 (fun x hx => by simpa using hmem x (by simpa using hx))
  have e2 : L.filter (fun x => decide (x.born ≥ n0)) = #[] := by
    rw [Array.filter_eq_empty_iff]
    intro x hx
    have := hmem x (by simpa using hx)
    simp
    omega
  simp only [e1, e2, Array.append_empty]
  by_cases h0 : L.size = 0
  · left
    have : L = #[] := Array.eq_empty_of_size_eq_zero h0
    subst this
    refine ⟨rfl, ?_⟩
    simp [choose, Sem.run, Question.forced]
  · right
    have hne : L.isEmpty = false := by simp [Array.isEmpty, h0]
    simp only [hne, Bool.false_eq_true, if_false, Array.empty_append, Array.size_map]
    have hch : ∃ (j : Nat) (w1 : World), j < L.size ∧ (w1 = w ∨ w1 = w.drew) ∧ (choose (Question.mapNext L.size)).run P w = .ok j w1 := by
      by_cases hf : L.size ≤ 1
      · exact ⟨0, w, by omega, .inl rfl, by simp [choose, Sem.run, Question.forced, hf]⟩
      · exact ⟨_, w.drew, Nat.mod_lt _ (by omega), .inr rfl, by
          simp only [choose, Sem.run, Question.forced, decide_eq_true_eq, hf, if_false, Question.cut]
          rfl⟩
    obtain ⟨j, w1, hj, hal, hrun⟩ := hch
    refine ⟨L[j], by simp, w1, hal, ?_⟩
    have hh : w1.heap = w.heap := by rcases hal with h | h <;> rw [h] <;> rfl
    have hr1 : w1.heap[r]? = some (.mapIter (some bm) n0 seen n0) := by rw [hh]; exact hr
    have hset : ∀ (o' : Obj), (setObj r o').run P w1 = .ok () { w1 with heap := w.heap.setIfInBounds r o' } := fun o' => by
      simp only [setObj, Sem.run, hr1]
      rw [hh]
    simp only [hrun, Array.getElem?_map, Array.getElem?_eq_getElem hj, Option.map_some, Sem.run_bind, hset, Result.andThen]
    rfl

section
variable {P : Program} {st : St} {d : Nat} {dd : Option Nat} {ty : TypeId} {pos : String} {af : Array Edge} {gd : Option (Nat × Bool)} {K : St → Prop}

/-- one begins to go through a map -/
theorem SS.range {t : TypeId} {x : Operand} {k : Nat} {td td2 : TypeDesc} {z : Value} {es : List (Value × AV)} (ht : mapA P t = some (td2, z)) (hx : st.ev x = .mp k) (hk : hget st.h k = some (.mp td es)) (hd : d < st.n) (hdk : d ≠ k)
    (hK : K ⟨st.n, (d, .pt d 0) :: tkill d st.t, (d, some (.box itT [.mp k, .v (.int .i64 (es.length : Int)), .v (.int .i64 0), .v (.int .i64 (-1))])) :: hkill d st.h⟩) : SS P ⟨some d, .range t x, ty, pos, af, gd⟩ st K := by
  intro w0 Rd0 e a w next Q hga hn
  obtain ⟨kt, et, i, p1, p2, p3, p4⟩ := mapA_parts ht
  obtain ⟨b, arr, clock, hav, hb, hl0, hblk, hmr⟩ := hga.mapAt hx hk
  obtain ⟨hs1, hR1⟩ := hga.sr.kill d
  have hclk : clock = es.length := by rw [hmr.clk, hmr.len]
  subst hclk
  have hbox : BoxIs (w.alloc (.mapIter (some b) es.length #[] es.length)) w.heap.size itT [.map (some b), .int .i64 (es.length : Int), .int .i64 ((0 : Nat) : Int), .int .i64 (-1)] :=
    .inr ⟨rfl, b, es.length, 0, -1, #[], rfl, hNew w _, fun j => by simp, fun h => by omega⟩
  have hlr : LR (VR (RDx w0 Rd0 e (hkill d st.h) w) (some e)) [.mp k, .v (.int .i64 (es.length : Int)), .v (.int .i64 0), .v (.int .i64 (-1))] [.map (some b), .int .i64 (es.length : Int), .int .i64 ((0 : Nat) : Int), .int .i64 (-1)] :=
    LR.cons (.mp hb) (LR.cons .v (LR.cons .v (LR.cons .v LR.nil)))
  obtain ⟨hs2, hR2⟩ := hs1.newBoxO d itT _ hbox hlr (hnom_kill d st.h) (by have := hga.n.2; omega) (by simp [AV.mentL, AV.ment]; exact fun h => hdk h.symm)
  refine wp_value (v := .pointer (some ⟨w.heap.size, 0, none⟩)) (w' := w.alloc (.mapIter (some b) es.length #[] es.length)) ?_ (hn _ hK _ _ _ ⟨by simpa [Act.put] using hga.n, hga.d, hs2, TR.put ?_ (by rw [hga.n.1]; exact hd) (.pt Env.upd_blk)⟩)
  · simp [execOp, hav, run_range_map w t kt et b arr es.length p1 hblk]
  · exact (((hga.tr.kill d).mono hR1).mono hR2).env d (tnom_kill d st.t) (fun _ hi => Env.upd_blk' hi) (fun _ hi => Env.upd_sv' hi)

theorem Ga.iterAt {w0 : Bs} {Rd0 : Nat → Nat → Value → Prop} {e : Env} {a : Act} {w : World} (h : Ga w0 Rd0 e st a w) {x : Operand} {k km : Nat} {td : TypeDesc} {es : List (Value × AV)} {n0 m c : Int} (hx : st.ev x = .pt k 0)
    (hk : hget st.h k = some (.box itT [.mp km, .v (.int .i64 n0), .v (.int .i64 m), .v (.int .i64 c)])) (hkm : hget st.h km = some (.mp td es)) (hn0 : (es.length : Int) = n0) :
    ∃ b bm arr seen, a.eval x = .pointer (some ⟨b, 0, none⟩) ∧ e.blk k = some b ∧ e.lent k = 0 ∧ e.blk km = some bm ∧ w.heap[b]? = some (.mapIter (some bm) es.length seen es.length) ∧ w.heap[bm]? = some (.map arr es.length) ∧
      MR (RDx w0 Rd0 e st.h w) td es arr es.length ∧ (∀ j, seen.contains j = m.toNat.testBit j) ∧ (0 ≤ c → seen.back? = some c.toNat) ∧ 0 ≤ m := by
  obtain ⟨hl0, b, us, hb, hbox, hlr⟩ := h.sr.ob _ _ hk
  obtain ⟨_, bm, arr, clock, hbm, hblk, hmr⟩ := h.sr.ob _ _ hkm
  rcases hbox with ⟨h0, _⟩ | ⟨_, bm', N0, mask, cur, seen, rfl, hit, hseen, hback⟩
  · exact absurd rfl h0
  have hclk : clock = es.length := by rw [hmr.clk, hmr.len]
  subst hclk
  have h0 := hlr.2 0 _ _ rfl rfl
  have h1 := (hlr.2 1 _ _ rfl rfl).v_inv
  have h2 := (hlr.2 2 _ _ rfl rfl).v_inv
  have h3 := (hlr.2 3 _ _ rfl rfl).v_inv
  simp only [Value.int.injEq, true_and] at h1 h2 h3
  have hv := h.ev x
  rw [hx] at hv
  generalize a.eval x = u at hv
  cases hv with
  | pt hb2 =>
    obtain rfl := Option.some.inj (hb2.symm.trans hb)
    have hbm' : bm' = bm := by
      cases h0 with
      | mp hq => exact Option.some.inj (hq.symm.trans hbm)
    subst hbm'
    have hN : N0 = es.length := by omega
    subst hN
    subst h3
    refine ⟨_, bm', arr, seen, rfl, hb, hl0, hbm, hit, hblk, hmr, fun j => ?_, hback, by omega⟩
    rw [hseen j, ← h2]; rfl

theorem VR.tu3 {Rd : Nat → Nat → Value → Prop} {E : Option Env} (k v : Value) : VR Rd E (.tu [.v (.bool true), .un, .un]) (.tuple #[.bool true, k, v]) := by
  have h : LR (VR Rd E) [.v (.bool true), .un, .un] [.bool true, k, v] := LR.cons .v (LR.cons .un (LR.cons .un LR.nil))
  exact .tu _ h.1 h.2
/-- it goes on: over, if all were met; else to any that was not -/
theorem SS.next {x : Operand} {k km : Nat} {td : TypeDesc} {es : List (Value × AV)} {n0 m c : Int} (hx : st.ev x = .pt k 0) (hk : hget st.h k = some (.box itT [.mp km, .v (.int .i64 n0), .v (.int .i64 m), .v (.int .i64 c)])) (hkm : hget st.h km = some (.mp td es)) (hn0 : (es.length : Int) = n0) (hd : d < st.n)
    (hK0 : (∀ j, j < es.length → m.toNat.testBit j = true) → K ⟨st.n, (d, .tu [.v (.bool false)]) :: st.t, st.h⟩)
    (hK1 : ∀ j, j < es.length → m.toNat.testBit j = false → K ⟨st.n, (d, .tu [.v (.bool true), .un, .un]) :: st.t, (k, some (.box itT [.mp km, .v (.int .i64 n0), .v (.int .i64 (maskI m j)), .v (.int .i64 (Int.ofNat j))])) :: st.h⟩) :
    SS P ⟨some d, .next x false, ty, pos, af, gd⟩ st K := by
  intro w0 Rd0 e a w next Q hga hn
  obtain ⟨b, bm, arr, seen, hav, hb, hl0, hbm, hit, hblk, hmr, hseen, hback, hm0⟩ := hga.iterAt hx hk hkm hn0
  subst hn0
  have hborn : ∀ y ∈ arr.toList, y.born < es.length := fun y hy => by
    obtain ⟨j, hj, rfl⟩ := List.getElem_of_mem hy
    have hj' : j < arr.size := by simpa using hj
    have := hmr.brn j arr[j] (Array.getElem?_eq_getElem hj')
    rw [Array.getElem_toList, this, ← hmr.len]; exact hj'
  rcases run_next_at (P := P) w ty b bm es.length seen arr hit hblk hborn with ⟨hz, hrun⟩ | ⟨y, hy, w1, hw1, hrun⟩
  · have hall : ∀ j, j < es.length → m.toNat.testBit j = true := fun j hj => by
      rw [← hseen j]
      have hj' : j < arr.size := by rw [hmr.len]; exact hj
      have := all_seen arr seen hz arr[j] (by simp)
      rw [hmr.brn j arr[j] (Array.getElem?_eq_getElem hj')] at this
      exact this
    have hl : LR (VR (RDx w0 Rd0 e st.h w) (some e)) [.v (.bool false)] [.bool false] := LR.cons .v LR.nil
    exact wp_value (v := .tuple #[.bool false]) (w' := w) (by simp [execOp, hav, hrun]) (hn _ (hK0 hall) e _ _ (hga.put hd (.tu _ hl.1 hl.2)))
  · obtain ⟨hy1, hy2⟩ := mem_left hy
    obtain ⟨j, hj, hjy⟩ := List.getElem_of_mem hy1
    have hj' : j < arr.size := by simpa using hj
    have hbj : y.born = j := by rw [← hjy, Array.getElem_toList]; exact hmr.brn j _ (Array.getElem?_eq_getElem hj')
    rw [hbj] at hrun hy2
    have hje : j < es.length := by rw [← hmr.len]; exact hj'
    have hbit : m.toNat.testBit j = false := by rw [← hseen j]; exact hy2
    have hbase := hga.sr.base _ _ _ hk hb
    have hset := heap_set (o' := .mapIter (some bm) es.length (seen.push j) es.length) hit
    have hext : Bx w0 { w1 with heap := w.heap.setIfInBounds b (.mapIter (some bm) es.length (seen.push j) es.length) } := by
      have h1 : Bx w0 w1 := by
        rcases hw1 with rfl | rfl
        · exact hga.sr.ext
        · exact hga.sr.ext.drew
      have hh : w1.heap = w.heap := by rcases hw1 with h | h <;> rw [h] <;> rfl
      exact h1.step rfl rfl rfl (by simp [hh]) fun j hj _ => by rw [hh]; exact hset.2 j fun e => hj (by rw [e]; exact hbase.1)
    have hbe : ∀ j, (e.upd k (some b) (e.sv k) 0).blk j = e.blk j := fun j => by by_cases hj : j = k <;> simp [Env.upd, hj, hb]
    have hse : ∀ j, (e.upd k (some b) (e.sv k) 0).sv j = e.sv j := fun j => by by_cases hj : j = k <;> simp [Env.upd, hj]
    obtain ⟨hs2, hR2⟩ := hga.sr.turn (w' := { w1 with heap := w.heap.setIfInBounds b (.mapIter (some bm) es.length (seen.push j) es.length) }) k (some b) (e.sv k) 0
      (some (.box itT [.mp km, .v (.int .i64 (es.length : Int)), .v (.int .i64 (maskI m j)), .v (.int .i64 (Int.ofNat j))])) hext (.inr ⟨hb.symm, rfl⟩) (by simp)
      (fun b' hb' hne => hset.2 b' fun hh => hne _ hk (by rw [hb]; exact congrArg some hh.symm))
      (fun b' hb' _ => by obtain rfl := Option.some.inj hb'; exact ⟨hbase.1, by simpa using hbase.2, .inl ⟨_, hk, hb⟩⟩)
      (fun b' o' u' ob ho hb' hlt hcell => by have : e.lent k = 0 := hl0; omega)
      (fun Rd hR _ ob' hob' => by
        obtain rfl := Option.some.inj hob'
        refine ⟨Env.upd_lent, b, [.map (some bm), .int .i64 (es.length : Int), .int .i64 (maskI m j), .int .i64 (Int.ofNat j)], Env.upd_blk, .inr ⟨rfl, bm, es.length, m.toNat ||| 2 ^ j, Int.ofNat j, seen.push j, rfl, hset.1, fun i => ?_, fun _ => by simp⟩, ?_⟩
        · rw [contains_push, hseen i, Nat.testBit_or, Nat.testBit_two_pow]
          congr 1
          by_cases h : i = j
          · subst h; simp
          · rw [beq_eq_false_iff_ne.2 h]
            simp [show ¬ j = i from fun e => h e.symm]
        · exact LR.cons (.mp (by rw [hbe]; exact hbm)) (LR.cons .v (LR.cons .v (LR.cons .v LR.nil))))
    have hg2 : Ga w0 Rd0 (e.upd k (some b) (e.sv k) 0) ⟨st.n, st.t, (k, some (.box itT [.mp km, .v (.int .i64 (es.length : Int)), .v (.int .i64 (maskI m j)), .v (.int .i64 (Int.ofNat j))])) :: st.h⟩ a { w1 with heap := w.heap.setIfInBounds b (.mapIter (some bm) es.length (seen.push j) es.length) } :=
      ⟨hga.n, hga.d, hs2, (hga.tr.mono hR2).envEq hbe hse⟩
    refine wp_value (v := .tuple #[.bool true, y.key, y.val]) (w' := { w1 with heap := w.heap.setIfInBounds b (.mapIter (some bm) es.length (seen.push j) es.length) }) (by simp [execOp, hav, hrun]) (hn _ (hK1 j hje hbit) _ _ _ (hg2.put hd ?_))
    exact VR.tu3 _ _

/-- the entry that was met last -/
theorem RS.entry {x : Operand} {k km : Nat} {td : TypeDesc} {es : List (Value × AV)} {n0 m c : Int} {kv : Value} {kc cv : AV} (hx : st.ev x = .pt k 0) (hk : hget st.h k = some (.box itT [.mp km, .v (.int .i64 n0), .v (.int .i64 m), .v (.int .i64 c)])) (hkm : hget st.h km = some (.mp td es)) (hn0 : (es.length : Int) = n0)
    (hc : 0 ≤ c) (he : es[c.toNat]? = some (kv, cv)) (hkc : ∀ (Rd : Nat → Nat → Value → Prop) E, VR Rd E kc kv) : RS P ⟨dd, .entry x, ty, pos, af, gd⟩ st (.tu [kc, cv]) := fun w0 Rd0 e a w h => by
  obtain ⟨b, bm, arr, seen, hav, hb, hl0, hbm, hit, hblk, hmr, hseen, hback, hm0⟩ := h.iterAt hx hk hkm hn0
  have hj : c.toNat < es.length := (List.getElem?_eq_some_iff.1 he).1
  have hj' : c.toNat < arr.size := by rw [hmr.len]; exact hj
  have hm := Array.getElem?_eq_getElem hj'
  have hkk := hmr.key _ _ _ he hm
  have hbrn := hmr.brn _ _ hm
  have hl : LR (VR (RDx w0 Rd0 e st.h w) (some e)) [kc, cv] [kv, arr[c.toNat].val] := LR.cons (hkc _ _) (LR.cons hkk.2.some_of_none LR.nil)
  have hnd : (arr.toList.map (·.born)).Nodup := by
    rw [List.Nodup, List.pairwise_iff_getElem]
    intro i i' hi hi' hii
    simp only [List.getElem_map, Array.getElem_toList]
    simp only [List.length_map, Array.length_toList] at hi hi'
    rw [hmr.brn i _ (Array.getElem?_eq_getElem hi), hmr.brn i' _ (Array.getElem?_eq_getElem hi')]
    omega
  have hf : arr.find? (·.born == c.toNat) = some arr[c.toNat] := by
    rw [← Array.find?_toList]
    have := find_born arr[c.toNat] arr.toList hnd (by simp)
    rw [hbrn] at this
    exact this
  refine ⟨.tuple #[kv, arr[c.toNat].val], .tu _ hl.1 hl.2, fun w' hxx => ?_⟩
  have hit' := hxx.block hit
  have hblk' := hxx.block hblk
  have hb0 := hback hc
  simp only [execOp, hav, Instr.entry, getObj, Sem.run_bind, Sem.run, hit', hblk', Result.andThen, hb0, bne_self_eq_false, Bool.false_eq_true, if_false, hf, hkk.1]
  rfl
end
end Go.Proofs.Ytggnolfcgaglfaa
