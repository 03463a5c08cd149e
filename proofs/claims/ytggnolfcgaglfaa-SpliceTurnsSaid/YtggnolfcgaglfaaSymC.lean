/- How the objects turn: a new block, a store, a row that grows, a row that is handed out. -/
import Derived.Test.YtggnolfcgaglfaaSymB
set_option linter.unusedVariables false
set_option linter.unusedSimpArgs false
namespace Go.Proofs.Ytggnolfcgaglfaa
open Go Go.RowKit
section
variable {w0 : Bs} {w : World} {Rd0 : Nat → Nat → Value → Prop} {e : Env} {h : Hp}

theorem hOld (w : World) (o : Obj) (i : Nat) (hi : i < w.heap.size) : (w.alloc o).heap[i]? = w.heap[i]? := by
  show (w.heap.push o)[i]? = _
  rw [Array.getElem?_push, if_neg (by omega)]
theorem hNew (w : World) (o : Obj) : (w.alloc o).heap[w.heap.size]? = some o := by
  show (w.heap.push o)[w.heap.size]? = _
  rw [Array.getElem?_push, if_pos rfl]
theorem RDx.lt {b o : Nat} {u : Value} (hr : RDx w0 Rd0 e h w b o u) : b < w.heap.size := World.block_lt_of_cell? w _ hr.1

/-- a new block -/
theorem SR.newBoxO (hs : SR w0 Rd0 e h w) (k : Nat) (t : TypeId) {cs : List AV} {us : List Value} (o : Obj) (ho : BoxIs (w.alloc o) w.heap.size t us) (hl : LR (VR (RDx w0 Rd0 e h w) (some e)) cs us) (hn : hnom k h = true) (hk0 : k < 4294967296) (hc : AV.mentL k cs = false) :
    SR w0 Rd0 (e.upd k (some w.heap.size) (e.sv k) 0) ((k, some (.box t cs)) :: h) (w.alloc o) ∧
    ∀ b o' u, RDx w0 Rd0 e h w b o' u → RDx w0 Rd0 (e.upd k (some w.heap.size) (e.sv k) 0) ((k, some (.box t cs)) :: h) (w.alloc o) b o' u := by
  refine hs.turn k (some w.heap.size) (e.sv k) 0 _ (hs.ext.alloc _) (.inl ⟨hn, hk0⟩) (by simp) (fun b hb _ => hOld w _ b hb) (fun b hb _ => ?_) (fun b o u ob ho hb hlt hcell => ?_) (fun Rd hR _ ob' hob' => ?_)
  · obtain rfl := Option.some.inj hb
    exact ⟨hs.ext.mine (Nat.le_refl _), by simp, .inr (Nat.le_refl _)⟩
  · have hblt := (hs.base _ _ _ ho hb).2
    refine ⟨by rw [World.cell?_of_block (w := w) (hOld w _ b hblt)]; exact hcell, fun _ hbb => ?_⟩
    obtain rfl := Option.some.inj hbb
    omega
  · obtain rfl := Option.some.inj hob'
    refine ⟨Env.upd_lent, w.heap.size, us, Env.upd_blk, ho, hl.1, fun i c u h1 h2 => ?_⟩
    exact ((hl.2 i c u h1 h2).mono hR).env rfl k (mentL_false hc i c h1) (fun _ hi => Env.upd_blk' hi) (fun _ hi => Env.upd_sv' hi)
theorem SR.newBox (hs : SR w0 Rd0 e h w) (k : Nat) (t : TypeId) (hti : t ≠ itT) {cs : List AV} {us : List Value} (hl : LR (VR (RDx w0 Rd0 e h w) (some e)) cs us) (hn : hnom k h = true) (hk0 : k < 4294967296) (hc : AV.mentL k cs = false) :
    SR w0 Rd0 (e.upd k (some w.heap.size) (e.sv k) 0) ((k, some (.box t cs)) :: h) (w.alloc (.cells us.toArray t)) ∧
    ∀ b o u, RDx w0 Rd0 e h w b o u → RDx w0 Rd0 (e.upd k (some w.heap.size) (e.sv k) 0) ((k, some (.box t cs)) :: h) (w.alloc (.cells us.toArray t)) b o u :=
  hs.newBoxO k t _ (.inl ⟨hti, hNew w _⟩) hl hn hk0 hc

/-- a new row that the call owns -/
theorem SR.newArr (hs : SR w0 Rd0 e h w) (k : Nat) (t : TypeId) (sz cap : Nat) {rows : List (List AV)} {cur : Array Value} (hw : ∀ r ∈ rows, r.length = sz) (h1c : ∀ c ∈ rows.flatten, c.one = true)
    (hl : LR (VR (RDx w0 Rd0 e h w) none) rows.flatten (cur.toList.take rows.flatten.length)) (hcap : rows.length ≤ cap) (hm : cap ≤ maxLen) (hcur : cur.size = cap * sz) (hn : hnom k h = true) (hk0 : k < 4294967296)
    (w' : World) (hw' : w'.heap = w.heap.push (.cells cur t)) (hext : Bx w0 w') :
    SR w0 Rd0 (e.upd k (some w.heap.size) (.slice (some ⟨w.heap.size, 0, none⟩) rows.length cap) 0) ((k, some (.arr t sz rows true)) :: h) w' ∧
    ∀ b o u, RDx w0 Rd0 e h w b o u → RDx w0 Rd0 (e.upd k (some w.heap.size) (.slice (some ⟨w.heap.size, 0, none⟩) rows.length cap) 0) ((k, some (.arr t sz rows true)) :: h) w' b o u := by
  have hsz : w'.heap.size = w.heap.size + 1 := by rw [hw']; simp
  have hold : ∀ b, b < w.heap.size → w'.heap[b]? = w.heap[b]? := fun b hb => by rw [hw', Array.getElem?_push, if_neg (by omega)]
  refine hs.turn k (some w.heap.size) (.slice (some ⟨w.heap.size, 0, none⟩) rows.length cap) 0 _ hext (.inl ⟨hn, hk0⟩) (by omega) (fun b hb _ => hold b hb) (fun b hb _ => ?_) (fun b o u ob ho hb hlt hcell => ?_) (fun Rd hR _ ob' hob' => ?_)
  · obtain rfl := Option.some.inj hb
    exact ⟨hs.ext.mine (Nat.le_refl _), by omega, .inr (Nat.le_refl _)⟩
  · have hblt := (hs.base _ _ _ ho hb).2
    refine ⟨by rw [World.cell?_of_block (w := w) (hold b hblt)]; exact hcell, fun _ hbb => ?_⟩
    obtain rfl := Option.some.inj hbb
    omega
  · obtain rfl := Option.some.inj hob'
    refine ⟨hw, h1c, fun _ => Env.upd_lent, .inr ⟨w.heap.size, cap, cur, Env.upd_blk, Env.upd_sv, hcap, hm, ?_, hcur, hl.imp fun _ _ hv => hv.mono hR, ?_⟩⟩
    · rw [hw', Array.getElem?_push, if_pos rfl]
    · rw [Env.upd_lent]; exact Nat.zero_le _

/-- an object with nothing in it yet -/
theorem SR.newNil (hs : SR w0 Rd0 e h w) (k : Nat) (t : TypeId) (sz : Nat) (a : Option Addr) (hn : hnom k h = true) (hk0 : k < 4294967296) :
    SR w0 Rd0 (e.upd k none (.slice a 0 0) 0) ((k, some (.arr t sz [] true)) :: h) w ∧
    ∀ b o u, RDx w0 Rd0 e h w b o u → RDx w0 Rd0 (e.upd k none (.slice a 0 0) 0) ((k, some (.arr t sz [] true)) :: h) w b o u := by
  refine hs.turn k none (.slice a 0 0) 0 _ hs.ext (.inl ⟨hn, hk0⟩) (Nat.le_refl _) (fun b hb _ => rfl) (fun b hb _ => by cases hb) (fun b o u ob ho hb hlt hcell => ⟨hcell, fun _ hbb => by cases hbb⟩) (fun Rd hR _ ob' hob' => ?_)
  obtain rfl := Option.some.inj hob'
  exact ⟨by simp, by simp, fun _ => Env.upd_lent, .inl ⟨rfl, Env.upd_blk, a, Env.upd_sv⟩⟩

/-- a store into a block of the call's own -/
theorem SR.storeBox (hs : SR w0 Rd0 e h w) {k : Nat} {t : TypeId} {cs : List AV} {b : Nat} (hti : t ≠ itT) (hk : hget h k = some (.box t cs)) (hb : e.blk k = some b) (o : Nat) {c : AV} {u : Value}
    (hv : VR (RDx w0 Rd0 e h w) (some e) c u) :
    SR w0 Rd0 (e.upd k (some b) (e.sv k) 0) ((k, some (.box t (cs.set o c))) :: h) (w.setCell ⟨b, o, none⟩ u) ∧
    ∀ b' o' u', RDx w0 Rd0 e h w b' o' u' → RDx w0 Rd0 (e.upd k (some b) (e.sv k) 0) ((k, some (.box t (cs.set o c))) :: h) (w.setCell ⟨b, o, none⟩ u) b' o' u' := by
  obtain ⟨hl0, b1, us, hb1, hus, hlr⟩ := hs.ob _ _ hk
  obtain rfl : b1 = b := Option.some.inj (hb1.symm.trans hb)
  have hbase := hs.base _ _ _ hk hb
  refine hs.turn k (some b1) (e.sv k) 0 _ (hs.ext.setCell hbase.1 _) (.inr ⟨hb.symm, rfl⟩) (by simp) (fun b' hb' hne => heap_setCell_other w _ _ _ (fun hh => hne _ hk (by rw [hb]; exact congrArg some hh.symm))) (fun b' hb' _ => ?_) (fun b' o' u' ob ho hb' hlt hcell => ?_) (fun Rd hR _ ob' hob' => ?_)
  · obtain rfl := Option.some.inj hb'
    exact ⟨hbase.1, by simp; exact hbase.2, .inl ⟨_, hk, hb⟩⟩
  · rw [hl0] at hlt; omega
  · obtain rfl := Option.some.inj hob'
    refine ⟨Env.upd_lent, b1, us.set o u, Env.upd_blk, .inl ⟨hti, ?_⟩, ?_⟩
    · have := heap_setCell_same w b1 o us.toArray t u (hus.cells hti)
      rw [this]
      simp
    · have hbe : ∀ j, (e.upd k (some b1) (e.sv k) 0).blk j = e.blk j := fun j => by by_cases hj : j = k <;> simp [Env.upd, hj, hb]
      have hse : ∀ j, (e.upd k (some b1) (e.sv k) 0).sv j = e.sv j := fun j => by by_cases hj : j = k <;> simp [Env.upd, hj]
      have h1 : LR (VR Rd (some (e.upd k (some b1) (e.sv k) 0))) cs us := ⟨hlr.1, fun i c u h1 h2 => ((hlr.2 i c u h1 h2).mono hR).envEq rfl hbe hse⟩
      exact h1.set o ((hv.mono hR).envEq rfl hbe hse)

/-- a store into an element of a row of the call's own -/
theorem SR.storeArr (hs : SR w0 Rd0 e h w) {k : Nat} {t : TypeId} {sz : Nat} {rows rows' : List (List AV)} {b : Nat} (hk : hget h k = some (.arr t sz rows true)) (hb : e.blk k = some b) (o : Nat) {c : AV} {u : Value}
    (hv : VR (RDx w0 Rd0 e h w) none c u) (hc1 : c.one = true) (hlen : rows'.length = rows.length) (hw : ∀ r ∈ rows', r.length = sz) (hfl : rows'.flatten = rows.flatten.set o c) (ho : o < rows.flatten.length) :
    SR w0 Rd0 (e.upd k (some b) (e.sv k) 0) ((k, some (.arr t sz rows' true)) :: h) (w.setCell ⟨b, o, none⟩ u) ∧
    ∀ b' o' u', RDx w0 Rd0 e h w b' o' u' → RDx w0 Rd0 (e.upd k (some b) (e.sv k) 0) ((k, some (.arr t sz rows' true)) :: h) (w.setCell ⟨b, o, none⟩ u) b' o' u' := by
  obtain ⟨hw0, h1c, hl0, hrow⟩ := hs.ob _ _ hk
  have hl0 := hl0 rfl
  have hbase := hs.base _ _ _ hk hb
  rcases hrow with ⟨_, hbn, _⟩ | ⟨b1, cap, cur, hb1, hsv, hcap, hm, hcur, hcs, hlr, hle⟩
  · rw [hbn] at hb; cases hb
  obtain rfl : b1 = b := Option.some.inj (hb1.symm.trans hb)
  refine hs.turn k (some b1) (e.sv k) 0 _ (hs.ext.setCell hbase.1 _) (.inr ⟨hb.symm, rfl⟩) (by simp) (fun b' hb' hne => heap_setCell_other w _ _ _ (fun hh => hne _ hk (by rw [hb]; exact congrArg some hh.symm))) (fun b' hb' _ => ?_) (fun b' o' u' ob ho hb' hlt hcell => ?_) (fun Rd hR _ ob' hob' => ?_)
  · obtain rfl := Option.some.inj hb'
    exact ⟨hbase.1, by simp; exact hbase.2, .inl ⟨_, hk, hb⟩⟩
  · rw [hl0] at hlt; omega
  · obtain rfl := Option.some.inj hob'
    refine ⟨hw, ?_, fun _ => Env.upd_lent, .inr ⟨b1, cap, cur.setIfInBounds o u, Env.upd_blk, ?_, by rw [hlen]; exact hcap, hm, heap_setCell_same w b1 o cur t u hcur, by simpa using hcs, ?_, ?_⟩⟩
    · intro x hx
      rw [hfl] at hx
      rcases List.mem_or_eq_of_mem_set hx with hx | rfl
      · exact h1c x hx
      · exact hc1
    · rw [Env.upd_sv, hlen]; exact hsv
    · rw [hfl, Array.toList_setIfInBounds, List.length_set, List.take_set]
      exact (hlr.imp fun _ _ hv => hv.mono hR).set o (hv.mono hR)
    · rw [Env.upd_lent]; exact Nat.zero_le _

/-- an object's row is handed out to be read: from now on its elements stand (it may still grow) -/
theorem SR.lend (hs : SR w0 Rd0 e h w) {k : Nat} {t : TypeId} {sz : Nat} {rows : List (List AV)} {wr : Bool} (hk : hget h k = some (.arr t sz rows wr)) :
    ∃ e', SR w0 Rd0 e' ((k, some (.arr t sz rows false)) :: h) w ∧ (∀ b o u, RDx w0 Rd0 e h w b o u → RDx w0 Rd0 e' ((k, some (.arr t sz rows false)) :: h) w b o u) ∧
      (∀ j, e'.blk j = e.blk j) ∧ (∀ j, e'.sv j = e.sv j) ∧ VR (RDx w0 Rd0 e' ((k, some (.arr t sz rows false)) :: h) w) none (.sl false sz rows) (e.sv k) := by
  obtain ⟨hw0, h1c, hl0, hrow⟩ := hs.ob _ _ hk
  have hblk : ∀ j, (e.upd k (e.blk k) (e.sv k) rows.flatten.length).blk j = e.blk j := fun j => by by_cases hj : j = k <;> simp [Env.upd, hj]
  have hsv : ∀ j, (e.upd k (e.blk k) (e.sv k) rows.flatten.length).sv j = e.sv j := fun j => by by_cases hj : j = k <;> simp [Env.upd, hj]
  have hlent : e.lent k ≤ rows.flatten.length ∨ e.blk k = none := by
    rcases hrow with ⟨_, hbn, _⟩ | ⟨b1, cap, cur, hb1, _, _, _, _, _, _, hle⟩
    · exact .inr hbn
    · exact .inl hle
  obtain ⟨h1, h2⟩ := hs.turn k (e.blk k) (e.sv k) rows.flatten.length (some (.arr t sz rows false)) hs.ext (.inr ⟨rfl, rfl⟩) (Nat.le_refl _) (fun b hb _ => rfl)
    (fun b hb _ => ⟨(hs.base _ _ _ hk hb).1, (hs.base _ _ _ hk hb).2, .inl ⟨_, hk, hb⟩⟩)
    (fun b o u ob ho hb hlt hcell => ⟨hcell, fun _ _ => by
      rcases hlent with hle | hbn
      · omega
      · rw [hbn] at hb; cases hb⟩)
    (fun Rd hR _ ob' hob' => by
      obtain rfl := Option.some.inj hob'
      refine ⟨hw0, h1c, (fun hh => by cases hh), ?_⟩
      rcases hrow with ⟨hr, hbn, a, ha⟩ | ⟨b1, cap, cur, hb1, hsv1, hcap, hm, hcur, hcs, hlr, hle⟩
      · exact .inl ⟨hr, by rw [hblk]; exact hbn, a, by rw [hsv]; exact ha⟩
      · exact .inr ⟨b1, cap, cur, by rw [hblk]; exact hb1, by rw [hsv]; exact hsv1, hcap, hm, hcur, hcs, hlr.imp fun _ _ hv => hv.mono hR, by rw [Env.upd_lent]; exact Nat.le_refl _⟩)
  have hlk : (e.upd k (e.blk k) (e.sv k) rows.flatten.length).lent k = rows.flatten.length := Env.upd_lent
  generalize e.upd k (e.blk k) (e.sv k) rows.flatten.length = e' at *
  refine ⟨e', h1, h2, hblk, hsv, ?_⟩
  rcases hrow with ⟨hr, hbn, a, ha⟩ | ⟨b1, cap, cur, hb1, hsv1, hcap, hm, hcur, hcs, hlr, hle⟩
  · subst hr
    rw [ha]
    exact VR.sl (rows := []) [] (by simp) (by simp) rfl (by simp) (Nat.le_refl _) (Nat.zero_le _) (by simp) (by simp)
  · rw [hsv1]
    refine VR.sl (cur.toList.take rows.flatten.length) hw0 h1c hlr.1 (fun j c u hc hu => (hlr.2 j c u hc hu).mono h2) hcap hm (by simp) (fun _ => ⟨b1, 0, rfl, fun j u hj => ?_⟩)
    have hjl : j < rows.flatten.length := by
      have := (List.getElem?_eq_some_iff.1 hj).1
      rw [hlr.1] at this; exact this
    rw [List.getElem?_take, if_pos hjl] at hj
    refine ⟨by rw [Nat.zero_add, cell_of_row w b1 j cur t (0, 0) hcur]; simpa using hj, fun hlt => ?_, fun i ob hi hbi => ?_⟩
    · exact absurd (hs.base _ _ _ hk hb1).1 hlt
    · rw [hblk] at hbi
      by_cases hik : i = k
      · subst hik; rw [hlk]; omega
      · rw [hget_other hik] at hi
        exact absurd (hs.inj _ _ _ _ _ hi hk hbi hb1) hik

/-- an object is forgotten: its cells are never written again -/
theorem SR.forget (hs : SR w0 Rd0 e h w) (k : Nat) :
    SR w0 Rd0 e ((k, none) :: h) w ∧ ∀ b o u, RDx w0 Rd0 e h w b o u → RDx w0 Rd0 e ((k, none) :: h) w b o u := by
  have hR : ∀ b o u, RDx w0 Rd0 e h w b o u → RDx w0 Rd0 e ((k, none) :: h) w b o u := by
    rintro b o u ⟨h1, h2, h3⟩
    refine ⟨h1, h2, fun j ob hj hb => ?_⟩
    by_cases hjk : j = k
    · subst hjk; rw [hget_same] at hj; cases hj
    · rw [hget_other hjk] at hj; exact h3 j ob hj hb
  refine ⟨⟨hs.ext, hs.good, fun j ob hj => ?_, fun j ob b hj hb => ?_, fun j j' ob ob' b hj hj' hb hb' => ?_, hs.pin⟩, hR⟩
  · by_cases hjk : j = k
    · subst hjk; rw [hget_same] at hj; cases hj
    · rw [hget_other hjk] at hj; exact (hs.ob j ob hj).mono hR
  · by_cases hjk : j = k
    · subst hjk; rw [hget_same] at hj; cases hj
    · rw [hget_other hjk] at hj; exact hs.base j ob b hj hb
  · by_cases hjk : j = k
    · subst hjk; rw [hget_same] at hj; cases hj
    · by_cases hjk' : j' = k
      · subst hjk'; rw [hget_same] at hj'; cases hj'
      · rw [hget_other hjk] at hj; rw [hget_other hjk'] at hj'; exact hs.inj _ _ _ _ _ hj hj' hb hb'

/-- the world has grown, and nothing that was there has turned -/
theorem SR.later (hs : SR w0 Rd0 e h w) {w' : World} (hx : Ext w w') : SR w0 Rd0 e h w' ∧ ∀ b o u, RDx w0 Rd0 e h w b o u → RDx w0 Rd0 e h w' b o u := by
  have hR : ∀ b o u, RDx w0 Rd0 e h w b o u → RDx w0 Rd0 e h w' b o u := fun b o u ⟨h1, h2, h3⟩ => ⟨hx.cell h1, h2, h3⟩
  refine ⟨⟨hs.ext.later hx, hs.good, fun j ob hj => ?_, fun j ob b hj hb => ?_, hs.inj, hs.pin⟩, hR⟩
  · have ho := (hs.ob j ob hj).mono hR
    cases ob with
    | box t cs =>
      obtain ⟨h0, b, us, h1, h2, h3⟩ := ho
      exact ⟨h0, b, us, h1, h2.ext (fun o ho => hx.block ho), h3⟩
    | arr t sz rows wr =>
      obtain ⟨h0, h1, h2, h3⟩ := ho
      refine ⟨h0, h1, h2, ?_⟩
      rcases h3 with h3 | ⟨b, cap, cur, a1, a2, a3, a4, a5, a6, a7, a8⟩
      · exact .inl h3
      · exact .inr ⟨b, cap, cur, a1, a2, a3, a4, hx.block a5, a6, a7, a8⟩
    | mp d es =>
      obtain ⟨h0, b, arr, clock, h1, h2, h3⟩ := ho
      exact ⟨h0, b, arr, clock, h1, hx.block h2, h3⟩
    | nr t cs =>
      obtain ⟨h0, h3⟩ := ho
      refine ⟨h0, ?_⟩
      rcases h3 with h3 | ⟨b, cap, cur, a1, a2, a3, a4, a5, a6, a7⟩
      · exact .inl h3
      · exact .inr ⟨b, cap, cur, a1, a2, a3, a4, hx.block a5, a6, a7⟩
  · have := hs.base j ob b hj hb
    exact ⟨this.1, Nat.lt_of_lt_of_le this.2 hx.size⟩
end
end Go.Proofs.Ytggnolfcgaglfaa
