/- Rows that grow. -/
import Derived.Test.YtggnolfcgaglfaaSymC
set_option linter.unusedVariables false
set_option linter.unusedSimpArgs false
namespace Go.Proofs.Ytggnolfcgaglfaa
open Go Go.RowKit

def AV.kill (k : Nat) (c : AV) : AV := if c.ment k then .un else c
def Ob.kill (k : Nat) : Ob → Ob
  | .box t cs => .box t (cs.map (AV.kill k))
  | .arr t sz rows wr => .arr t sz rows wr
  | .mp d es => .mp d es
  | .nr t cs => .nr t (cs.map (AV.kill k))
def hkill (k : Nat) : Hp → Hp
  | [] => []
  | (j, o) :: h => (j, o.map (Ob.kill k)) :: hkill k h
def tkill (k : Nat) : List (Nat × AV) → List (Nat × AV)
  | [] => []
  | (j, c) :: t => (j, c.kill k) :: tkill k t

theorem kill_ment (k : Nat) (c : AV) : (c.kill k).ment k = false := by
  unfold AV.kill
  split
  · rfl
  · rename_i h; simpa using h
theorem mentL_kill (k : Nat) : ∀ cs : List AV, AV.mentL k (cs.map (AV.kill k)) = false
  | [] => rfl
  | c :: cs => by simp [AV.mentL, kill_ment, mentL_kill k cs]
theorem hnom_kill (k : Nat) : ∀ h : Hp, hnom k (hkill k h) = true
  | [] => rfl
  | (j, o) :: h => by
    have ih := hnom_kill k h
    unfold hnom at ih ⊢
    simp only [hkill, List.all_cons, ih, Bool.and_true]
    cases o with
    | none => rfl
    | some ob => cases ob <;> simp [Ob.kill, Ob.ment, mentL_kill]
theorem tnom_kill (k : Nat) : ∀ t : List (Nat × AV), tnom k (tkill k t) = true
  | [] => rfl
  | (j, c) :: t => by
    have ih := tnom_kill k t
    unfold tnom at ih ⊢
    simp only [tkill, List.all_cons, ih, Bool.and_true, kill_ment, Bool.not_false]
theorem hget_kill (k : Nat) : ∀ (h : Hp) (j : Nat), hget (hkill k h) j = (hget h j).map (Ob.kill k)
  | [], _ => rfl
  | (i, o) :: h, j => by
    simp only [hkill, hget]
    split
    · rfl
    · exact hget_kill k h j
theorem tget_kill (k : Nat) : ∀ (t : List (Nat × AV)) (j : Nat), tget (tkill k t) j = (tget t j).kill k
  | [], _ => by simp [tkill, tget, AV.kill, AV.ment]
  | (i, c) :: t, j => by
    simp only [tkill, tget]
    split
    · rfl
    · exact tget_kill k t j
theorem VR.kill {Rd : Nat → Nat → Value → Prop} {E : Option Env} {c : AV} {u : Value} (h : VR Rd E c u) (k : Nat) : VR Rd E (c.kill k) u := by
  unfold AV.kill; split
  · exact .un
  · exact h
theorem TR.kill {Rd : Nat → Nat → Value → Prop} {e : Env} {t : List (Nat × AV)} {tm : Array Value} (h : TR Rd e t tm) (k : Nat) : TR Rd e (tkill k t) tm := fun i => by
  rw [tget_kill]; exact (h i).kill k
theorem LR.kill {Rd : Nat → Nat → Value → Prop} {E : Option Env} {cs : List AV} {us : List Value} (h : LR (VR Rd E) cs us) (k : Nat) : LR (VR Rd E) (cs.map (AV.kill k)) us := by
  refine ⟨by simpa using h.1, fun j c u h1 h2 => ?_⟩
  rw [List.getElem?_map] at h1
  obtain ⟨c0, hc0, rfl⟩ := Option.map_eq_some_iff.1 h1
  exact (h.2 j c0 u hc0 h2).kill k

section
variable {w0 : Bs} {w : World} {Rd0 : Nat → Nat → Value → Prop} {e : Env} {h : Hp}
theorem SR.kill (hs : SR w0 Rd0 e h w) (k : Nat) : SR w0 Rd0 e (hkill k h) w ∧ ∀ b o u, RDx w0 Rd0 e h w b o u → RDx w0 Rd0 e (hkill k h) w b o u := by
  have hR : ∀ b o u, RDx w0 Rd0 e h w b o u → RDx w0 Rd0 e (hkill k h) w b o u := fun b o u ⟨h1, h2, h3⟩ => ⟨h1, h2, fun j ob hj hb => by
    rw [hget_kill] at hj
    obtain ⟨ob0, ho, _⟩ := Option.map_eq_some_iff.1 hj
    exact h3 j ob0 ho hb⟩
  have back : ∀ j ob, hget (hkill k h) j = some ob → ∃ ob0, hget h j = some ob0 ∧ ob = ob0.kill k := fun j ob hj => by
    rw [hget_kill] at hj
    obtain ⟨ob0, ho, he⟩ := Option.map_eq_some_iff.1 hj
    exact ⟨ob0, ho, he.symm⟩
  refine ⟨⟨hs.ext, hs.good, fun j ob hj => ?_, fun j ob b hj hb => ?_, fun j j' ob ob' b hj hj' hb hb' => ?_, hs.pin⟩, hR⟩
  · obtain ⟨ob0, ho, rfl⟩ := back j ob hj
    have h1 := (hs.ob j ob0 ho).mono hR
    cases ob0 with
    | box t cs =>
      obtain ⟨a0, b, us, a1, a2, a3⟩ := h1
      exact ⟨a0, b, us, a1, a2, a3.kill k⟩
    | arr t sz rows wr => exact h1
    | mp d es => exact h1
    | nr t cs =>
      obtain ⟨h0, h3⟩ := h1
      refine ⟨h0, ?_⟩
      rcases h3 with ⟨a1, a2, a3⟩ | ⟨b, cap, cur, a1, a2, a3, a4, a5, a6, a7⟩
      · exact .inl ⟨by rw [a1]; rfl, a2, a3⟩
      · exact .inr ⟨b, cap, cur, a1, by rw [List.length_map]; exact a2, by rw [List.length_map]; exact a3, a4, a5, a6, by rw [List.length_map]; exact a7.kill k⟩
  · obtain ⟨ob0, ho, rfl⟩ := back j ob hj
    exact hs.base j ob0 b ho hb
  · obtain ⟨ob0, ho, rfl⟩ := back j ob hj
    obtain ⟨ob1, ho1, rfl⟩ := back j' ob' hj'
    exact hs.inj _ _ _ _ _ ho ho1 hb hb'

/-- the cells of a slice that is read -/
theorem VR.sl_inv {Rd : Nat → Nat → Value → Prop} {E : Option Env} {tt : Bool} {sz : Nat} {rows : List (List AV)} {v : Value} (hv : VR Rd E (.sl tt sz rows) v) :
    ∃ a cap us, v = .slice a rows.length cap ∧ (∀ r ∈ rows, r.length = sz) ∧ (∀ c ∈ rows.flatten, c.one = true) ∧ LR (VR Rd none) rows.flatten us ∧ rows.length ≤ cap ∧ cap ≤ maxLen ∧ (tt = true → cap = rows.length) ∧
      (us ≠ [] → ∃ b o, a = some ⟨b, o, none⟩ ∧ ∀ (j : Nat) u, us[j]? = some u → Rd b (o + j) u) := by
  cases hv with
  | sl us hw h1c hl hc h1 h2 h3 ha => exact ⟨_, _, us, rfl, hw, h1c, ⟨hl, hc⟩, h1, h2, h3, ha⟩
theorem LR.one {Rd : Nat → Nat → Value → Prop} {cs : List AV} {us : List Value} (h : LR (VR Rd none) cs us) (h1 : ∀ c ∈ cs, c.one = true) : ∀ u ∈ us, u.oneCell' = true := by
  intro u hu
  obtain ⟨j, hj, rfl⟩ := List.getElem_of_mem hu
  have hjc : j < cs.length := by rw [← h.1]; exact hj
  exact (h.2 j cs[j] us[j] (List.getElem?_eq_getElem hjc) (List.getElem?_eq_getElem hj)).oneCell (h1 _ (List.getElem_mem _)) (fun _ _ h => by cases h)

section
variable {P : Program}
theorem run_append_zero (w : World) (t ty E : TypeId) (i : TypeInfo) (ht : P.underlying t = some (.slice E)) (hi : P.info? E = some i) (a a2 : Option Addr) (n cap cap2 : Nat) (hn : n ≤ cap) :
    (Builtin.append_ #[t, t] ty #[.slice a n cap, .slice a2 0 cap2]).run P w = .ok (.slice a n cap) w := by
  cases a <;> cases a2 <;> simp [Builtin.append_, run_underlying ht, sizeOf, typeInfo, hi, Builtin.lenOf, Builtin.firstCells, hn, storeCells, loadCells, loadCellsFrom]

theorem Bx.setRow {B : Bs} {w : World} (h : Bx B w) {g : Nat} (hg : B.mine g) (cs : Array Value) : Bx B (w.setRow g cs) :=
  h.step rfl rfl rfl (by simp [World.setRow]) fun b hb _ => setRow_other w g b cs (fun e => hb (by rw [e]; exact hg))

/-- APPEND TO AN OBJECT's ROW -/
theorem SR.append (hs : SR w0 Rd0 e h w) {k : Nat} (hk0 : k < 4294967296) {E : TypeId} {sz : Nat} {rows ys : List (List AV)} {wr tt : Bool} (hk : hget h k = some (.arr E sz rows wr))
    (t ty : TypeId) (i : TypeInfo) (z : Value) (ht : P.underlying t = some (.slice E)) (hi : P.info? E = some i) (hz : i.zero = some z) (hsz : i.size = sz) (hzs : z.cells.size = sz) (hpos : 0 < sz)
    {src : Value} (hsrc : VR (RDx w0 Rd0 e h w) (some e) (.sl tt sz ys) src)
    (h63 : rows.length + ys.length ≤ maxLen) (hby : (rows.length + ys.length) * i.bytes ≤ 140737488355328) :
    ∃ v' w' nb l, (Builtin.append_ #[t, t] ty #[e.sv k, src]).run P w = .ok v' w' ∧
      SR w0 Rd0 (e.upd k nb v' l) ((k, some (.arr E sz (rows ++ ys) wr)) :: hkill k h) w' ∧
      ∀ b o u, RDx w0 Rd0 e h w b o u → RDx w0 Rd0 (e.upd k nb v' l) ((k, some (.arr E sz (rows ++ ys) wr)) :: hkill k h) w' b o u := by
  obtain ⟨hs1, hR1⟩ := hs.kill k
  have hk1 : hget (hkill k h) k = some (.arr E sz rows wr) := by rw [hget_kill, hk]; rfl
  have hn1 := hnom_kill k h
  obtain ⟨a2, cap2, us, rfl, hyw, hy1, hyl, hy2, hy3, _, hya⟩ := hsrc.sl_inv
  have hyf := flatten_len hyw
  obtain ⟨hw0, h1c, hl0, hrow⟩ := hs1.ob _ _ hk1
  have hrf := flatten_len hw0
  have hww : ∀ r ∈ rows ++ ys, r.length = sz := fun r hr => by
    rcases List.mem_append.1 hr with hr | hr
    · exact hw0 r hr
    · exact hyw r hr
  have hw1 : ∀ c ∈ (rows ++ ys).flatten, c.one = true := fun c hc => by
    rw [List.flatten_append] at hc
    rcases List.mem_append.1 hc with hc | hc
    · exact h1c c hc
    · exact hy1 c hc
  unfold maxLen at h63
  by_cases hm0 : ys.length = 0
  · -- nothing is appended
    have hye : ys = [] := List.eq_nil_of_length_eq_zero hm0
    subst hye
    simp only [List.append_nil, List.length_nil] at *
    obtain ⟨a, n, cap, hsv, hnc⟩ : ∃ a n cap, e.sv k = .slice a n cap ∧ n ≤ cap := by
      rcases hrow with ⟨_, _, a, ha⟩ | ⟨b1, cap, cur, hb1, hsv, hcap, _⟩
      · exact ⟨a, 0, 0, ha, Nat.le_refl _⟩
      · exact ⟨_, _, _, hsv, hcap⟩
    obtain ⟨h1, h2⟩ := hs1.turn k (e.blk k) (e.sv k) (e.lent k) (some (.arr E sz rows wr)) hs.ext (.inl ⟨hn1, hk0⟩) (Nat.le_refl _) (fun _ _ _ => rfl)
      (fun b hb _ => ⟨(hs1.base _ _ _ hk1 hb).1, (hs1.base _ _ _ hk1 hb).2, .inl ⟨_, hk1, hb⟩⟩) (fun b o u ob ho hb hlt hcell => ⟨hcell, fun _ _ => hlt⟩)
      (fun Rd hR _ ob' hob' => by
        obtain rfl := Option.some.inj hob'
        refine ⟨hw0, h1c, fun hwr => by rw [Env.upd_lent]; exact hl0 hwr, ?_⟩
        rcases hrow with ⟨hr, hbn, a, ha⟩ | ⟨b1, cap, cur, hb1, hsv1, hcap, hm, hcur, hcs, hlr, hle⟩
        · exact .inl ⟨hr, by rw [Env.upd_blk]; exact hbn, a, by rw [Env.upd_sv]; exact ha⟩
        · exact .inr ⟨b1, cap, cur, by rw [Env.upd_blk]; exact hb1, by rw [Env.upd_sv]; exact hsv1, hcap, hm, hcur, hcs, hlr.imp fun _ _ hv => hv.mono hR, by rw [Env.upd_lent]; exact hle⟩)
    refine ⟨e.sv k, w, e.blk k, e.lent k, ?_, h1, fun b o u hr => h2 b o u (hR1 b o u hr)⟩
    rw [hsv]
    exact run_append_zero w t ty E i ht hi a a2 n cap cap2 hnc
  · -- something is
    have hmp : 0 < ys.length := by omega
    have husl : us.length = ys.length * sz := by rw [hyl.1, hyf]
    have husne : us ≠ [] := by
      intro hh
      rw [hh] at husl
      have := Nat.mul_pos hmp hpos
      simp at husl
      omega
    obtain ⟨b2, o2, rfl, hcells⟩ := hya husne
    have hnews : ∀ (j : Nat) u, us[j]? = some u → w.cell? ((⟨b2, o2, none⟩ : Addr).add j) = some u := fun j u hj => by
      rw [Addr.add_lit]; exact (hcells j u hj).1
    have hus1 := hyl.one hy1
    -- a new block
    have grown : ∀ (olds : List Value), LR (VR (RDx w0 Rd0 e (hkill k h) w) none) rows.flatten olds → ∀ (old : Nat) (wv : World), wv.heap = w.drew.heap → Bx w0 wv.drew → ∀ nc, rows.length + ys.length ≤ nc → nc ≤ maxLen →
        SR w0 Rd0 (e.upd k (some w.heap.size) (.slice (some ⟨w.heap.size, 0, none⟩) (rows.length + ys.length) nc) 0) ((k, some (.arr E sz (rows ++ ys) wr)) :: hkill k h)
          (w.drew.alloc (.cells (olds.toArray ++ us.toArray ++ Builtin.zeroCells z.cells (nc - (rows.length + ys.length))) E)) ∧
        ∀ b o u, RDx w0 Rd0 e (hkill k h) w b o u → RDx w0 Rd0 (e.upd k (some w.heap.size) (.slice (some ⟨w.heap.size, 0, none⟩) (rows.length + ys.length) nc) 0) ((k, some (.arr E sz (rows ++ ys) wr)) :: hkill k h)
          (w.drew.alloc (.cells (olds.toArray ++ us.toArray ++ Builtin.zeroCells z.cells (nc - (rows.length + ys.length))) E)) b o u := by
      intro olds holds old wv _ _ nc hnc hncm
      have hsize : (olds.toArray ++ us.toArray ++ Builtin.zeroCells z.cells (nc - (rows.length + ys.length))).size = nc * sz := by
        simp only [Array.size_append, List.size_toArray, size_zeroCells, hzs, holds.1, hrf, husl, ← Nat.add_mul]
        congr 1
        omega
      have hold : ∀ b, b < w.heap.size → (w.drew.alloc (.cells (olds.toArray ++ us.toArray ++ Builtin.zeroCells z.cells (nc - (rows.length + ys.length))) E)).heap[b]? = w.heap[b]? := fun b hb => hOld w.drew _ b hb
      refine hs1.turn k (some w.heap.size) _ 0 _ ((hs.ext.drew).alloc _) (.inl ⟨hn1, hk0⟩) (by simp) (fun b hb _ => hold b hb) (fun b hb _ => ?_) (fun b o u ob ho hb hlt hcell => ?_) (fun Rd hR _ ob' hob' => ?_)
      · obtain rfl := Option.some.inj hb
        exact ⟨hs.ext.mine (Nat.le_refl _), by simp, .inr (Nat.le_refl _)⟩
      · have hblt := (hs1.base _ _ _ ho hb).2
        refine ⟨by rw [World.cell?_of_block (w := w) (hold b hblt)]; exact hcell, fun _ hbb => ?_⟩
        obtain rfl := Option.some.inj hbb
        omega
      · obtain rfl := Option.some.inj hob'
        refine ⟨hww, hw1, fun _ => Env.upd_lent, .inr ⟨w.heap.size, nc, _, Env.upd_blk, ?_, ?_, hncm, hNew w.drew _, hsize, ?_, by rw [Env.upd_lent]; exact Nat.zero_le _⟩⟩
        · rw [Env.upd_sv, List.length_append]
        · rw [List.length_append]; exact hnc
        · rw [List.flatten_append]
          have e1 : (olds.toArray ++ us.toArray ++ Builtin.zeroCells z.cells (nc - (rows.length + ys.length))).toList.take (rows.flatten ++ ys.flatten).length = olds ++ us := by
            rw [Array.toList_append, Array.toList_append, List.length_append, ← holds.1, ← hyl.1, ← List.length_append]
            exact List.take_left
          rw [e1]
          exact (holds.imp fun _ _ hv => hv.mono hR).append (hyl.imp fun _ _ hv => hv.mono fun b o u hr => hR b o u (hR1 b o u hr))
    have hgm : ∀ old, grownCap w (rows.length + ys.length) old E ≤ maxLen := fun old => grownCap_le_maxLen w _ old E (by unfold maxLen; exact h63)
    rcases hrow with ⟨hr, hbn, a, ha⟩ | ⟨b1, cap, cur, hb1, hsv1, hcap, hm, hcur, hcs, hlr, hle⟩
    · subst hr
      simp only [List.length_nil, Nat.zero_add, List.nil_append] at *
      have hg := grown [] LR.nil 0 w rfl hs.ext.drew (grownCap w ys.length 0 E) (grownCap_ge w _ 0 E) (hgm 0)
      cases a with
      | none =>
        refine ⟨_, _, some w.heap.size, 0, ?_, hg.1, fun b o u hr => hg.2 b o u (hR1 b o u hr)⟩
        rw [ha]
        have := run_append_nil (P := P) w t ty E i z ht hi hz ⟨b2, o2, none⟩ ys.length cap2 us (by rw [husl, hsz]) hnews hmp (by omega) (by omega)
        simpa using this
      | some a =>
        refine ⟨_, _, some w.heap.size, 0, ?_, hg.1, fun b o u hr => hg.2 b o u (hR1 b o u hr)⟩
        rw [ha]
        have := run_append_grow (P := P) w t ty E i z ht hi hz a 0 0 [] (by simp) (by simp) ⟨b2, o2, none⟩ ys.length cap2 us (by rw [husl, hsz]) hnews (by omega) (by omega) (by rw [Nat.zero_add, nextslicecap_zero hmp]; omega)
        simpa using this
    · by_cases hroom : rows.length + ys.length ≤ cap
      · -- in place
        have hfit : rows.length * i.size + us.length ≤ cur.size := by rw [hsz, husl, hcs, ← Nat.add_mul]; exact Nat.mul_le_mul_right _ hroom
        have hr := run_append_room (P := P) w t ty E i ht hi b1 rows.length cap cur hcur ⟨b2, o2, none⟩ ys.length cap2 us (by rw [husl, hsz]) hnews hus1 hroom hfit
        have hbase := hs1.base _ _ _ hk1 hb1
        have hpre : cur.toList.take (rows.length * i.size) = cur.toList.take rows.flatten.length := by rw [hsz, hrf]
        have hplen : (cur.toList.take rows.flatten.length).length = rows.flatten.length := hlr.1
        rw [hpre] at hr
        refine ⟨_, _, some b1, e.lent k, by rw [hsv1]; exact hr, ?_⟩
        have hset := setRow_heap w b1 cur ((cur.toList.take rows.flatten.length ++ us ++ cur.toList.drop (rows.length * i.size + us.length)).toArray) E (0, 0) hcur
        obtain ⟨h1, h2⟩ := hs1.turn (w' := w.setRow b1 (cur.toList.take rows.flatten.length ++ us ++ cur.toList.drop (rows.length * i.size + us.length)).toArray) k (some b1) (.slice (some ⟨b1, 0, none⟩) (rows.length + ys.length) cap) (e.lent k) (some (.arr E sz (rows ++ ys) wr))
          (hs.ext.setRow hbase.1 _) (.inl ⟨hn1, hk0⟩) (by simp) (fun b hb hne => setRow_other w b1 b _ (fun hh => hne _ hk1 (by rw [hb1]; exact congrArg some hh.symm)))
          (fun b hb _ => by
            obtain rfl := Option.some.inj hb
            exact ⟨hbase.1, by simp; exact hbase.2, .inl ⟨_, hk1, hb1⟩⟩)
          (fun b o u ob ho hb hlt hcell => by
            obtain rfl : b1 = b := Option.some.inj (hb1.symm.trans hb)
            refine ⟨?_, fun _ _ => hlt⟩
            have ho' : o < rows.flatten.length := by omega
            rw [cell_of_row w b1 o cur E (0, 0) hcur] at hcell
            rw [cell_of_row _ b1 o _ E (0, 0) hset]
            have : o < (cur.toList.take rows.flatten.length).length := by omega
            simp only [List.getElem?_toArray]
            rw [List.append_assoc, List.getElem?_append_left this, List.getElem?_take, if_pos ho']
            simpa using hcell)
          (fun Rd hR _ ob' hob' => by
            obtain rfl := Option.some.inj hob'
            refine ⟨hww, hw1, fun hwr => by rw [Env.upd_lent]; exact hl0 hwr, .inr ⟨b1, cap, _, Env.upd_blk, by rw [Env.upd_sv, List.length_append], by rw [List.length_append]; exact hroom, hm, hset, ?_, ?_, ?_⟩⟩
            · simp only [List.size_toArray, List.length_append, List.length_drop, Array.length_toList, hplen]
              rw [hsz] at hfit ⊢
              rw [hrf]
              omega
            · have e1 : (cur.toList.take rows.flatten.length ++ us ++ cur.toList.drop (rows.length * i.size + us.length)).toArray.toList.take (rows ++ ys).flatten.length = cur.toList.take rows.flatten.length ++ us := by
                rw [List.flatten_append, List.length_append, ← hyl.1]
                exact List.take_left' (by rw [List.length_append, hplen])
              rw [e1, List.flatten_append]
              exact (hlr.imp fun _ _ hv => hv.mono hR).append (hyl.imp fun _ _ hv => hv.mono fun b o u hr => hR b o u (hR1 b o u hr))
            · rw [Env.upd_lent, List.flatten_append, List.length_append]; omega)
        exact ⟨h1, fun b o u hr => h2 b o u (hR1 b o u hr)⟩
      · have holds : ∀ (j : Nat) u, (cur.toList.take rows.flatten.length)[j]? = some u → w.cell? ((⟨b1, 0, none⟩ : Addr).add j) = some u := fun j u hj => by
          rw [Addr.add_lit, Nat.zero_add, cell_of_row w b1 j cur E (0, 0) hcur]
          rw [List.getElem?_take] at hj
          split at hj
          · simpa using hj
          · cases hj
        have hg := grown _ hlr cap w rfl hs.ext.drew (grownCap w (rows.length + ys.length) cap E) (grownCap_ge w _ cap E) (hgm cap)
        refine ⟨_, _, some w.heap.size, 0, ?_, hg.1, fun b o u hr => hg.2 b o u (hR1 b o u hr)⟩
        rw [hsv1]
        exact run_append_grow (P := P) w t ty E i z ht hi hz ⟨b1, 0, none⟩ rows.length cap (cur.toList.take rows.flatten.length) (by rw [hlr.1, hrf, hsz]) holds ⟨b2, o2, none⟩ ys.length cap2 us (by rw [husl, hsz]) hnews (by omega) (by omega) (growslice_fits (by omega) hby)
end
end
end Go.Proofs.Ytggnolfcgaglfaa
