/- What the laws on cuts, joins and turns say. -/
import Derived.Test.YtggnolfcgaglfaaSplF
set_option linter.unusedVariables false
set_option linter.unusedSimpArgs false
namespace Go.Proofs.Ytggnolfcgaglfaa
open Go Go.RowKit

theorem tw_len {l : List Int} {H : Int → Int} (h : TowR l (l.map H)) : l.length ≤ 1000 ∧ (l.map H).length = l.length ∧ 0 < l.length := by
  refine ⟨h.2.2.1.1, by simp, ?_⟩
  cases l with
  | nil => exact absurd rfl h.1
  | cons => simp
theorem tw {l : List Int} {H : Int → Int} (h : TowR l (l.map H)) : TowerR l (l.map H) (nextOf (l.map H)) := ⟨h, rfl⟩
theorem links_tw (N : Nat) (hN : Fu + 7 ≤ N) {l : List Int} {H : Int → Int} (h : TowR l (l.map H)) : m_splice_Links N (l, (l.map H, nextOf (l.map H))) = some (linksL l (l.map H)) := by
  have hl := tw_len h
  rw [links_eq N hN _ _ _ (by omega) (by omega), linksT, if_pos (tw h)]
theorem links_tw_len {l : List Int} {H : Int → Int} (h : TowR l (l.map H)) : (linksL l (l.map H)).length ≤ 8000 := by
  have hl := tw_len h
  have := links_len (ts := l) h.2.2.2
  omega
theorem height_tw (N : Nat) (hN : Fu + 7 ≤ N) {l : List Int} {H : Int → Int} (h : TowR l (l.map H)) {z : Int} (hz : z ∈ l) : m_splice_Height N (l, (l.map H, (nextOf (l.map H), z))) = some (H z) := by
  have hl := tw_len h
  rw [height_eq N hN _ _ _ _ (by omega) (by omega), hgtT, if_pos (tw h), hgt_of h hz]
theorem right_tw (N : Nat) (hN : Fu + 6 ≤ N) {l : List Int} {H : Int → Int} (h : TowR l (l.map H)) : m_ref14_Right N (l, (l.map H, nextOf (l.map H))) = some true := by
  have hl := tw_len h
  rw [rright_eq N hN _ _ _ (by omega) (by omega), decide_eq_true (tw h)]
theorem from_tw (N : Nat) (hN : Fu + 8 ≤ N) {l : List Int} {H : Int → Int} (h : TowR l (l.map H)) {x : Int} (hx : x ∈ l) : m_splice_From N (l, (l.map H, (nextOf (l.map H), x))) = some (true, rotAt l x, (rotAt l x).map H, nextOf ((rotAt l x).map H)) ∧ TowR (rotAt l x) ((rotAt l x).map H) := by
  have hl := tw_len h
  have hH : ∀ z ∈ rotAt l x, hgt l (l.map H) z = H z := fun z hz => hgt_of h (rotAt_mem.1 hz)
  have hr : TowR (rotAt l x) ((rotAt l x).map H) := towR_of (rotAt_ring.2 h.2.2.1) (List.ne_nil_of_mem (rotAt_mem.2 hx)) fun z hz => by
    rw [← hH z hz]; exact hgt_in h (rotAt_mem.1 hz)
  refine ⟨?_, hr⟩
  rw [sfrom_eq N hN _ _ _ _ (by omega) (by omega), sfT, if_pos (tw h), fromOf, if_pos ⟨h.2.2.1, hx⟩]
  simp only
  rw [towOf_congr hH, towOf_pos hr]
theorem rotAt2 {l : List Int} {x w : Int} (hn : l.Nodup) (hw : w ∈ l) : rotAt (rotAt l x) w = rotAt l w := rotAt_rot hn hw
theorem rotAt_zero {l : List Int} {z : Int} (h : l[0]? = some z) : rotAt l z = l := by
  cases l with
  | nil => simp at h
  | cons a l =>
    simp at h; subst h
    have : rotAt ([] ++ a :: l) a = a :: l ++ [] := rotAt_mid (by simp)
    simpa using this
theorem rot_cons {l S : List Int} {x w : Int} (hn : l.Nodup) (hS : rotAt l x = x :: S) (hw : w ∈ l) : rotAt l w = rotAt (S ++ [x]) w := by
  have h1 : ([x] ++ S).Nodup := by
    have : (rotAt l x).Nodup := rot_nodup.2 hn
    rw [hS] at this; exact this
  have h2 : w ∈ [x] ++ S := by
    have : w ∈ rotAt l x := rotAt_mem.2 hw
    rw [hS] at this; exact this
  rw [← rotAt2 (x := x) hn hw, hS]
  exact rotAt_comm h1 h2

/-! turned -/
theorem turns_loop (N : Nat) (hN : Fu + 7 ≤ N) {t f : List Int} {H : Int → Int} (hT : TowR t (t.map H)) (hf : TowR f (f.map H)) (hm : ∀ z ∈ t, z ∈ f) : ∀ (k i m : Nat), i + k = t.length → k < m →
    l_law15_SpliceTurns_1 N m (((t.length : Nat) : Int), (i : Int), t, t.map H, nextOf (t.map H), f, f.map H, nextOf (f.map H)) = some (.inl (t, t.map H, nextOf (t.map H), f, f.map H, nextOf (f.map H)))
  | k, i, 0, h1, h2 => by omega
  | 0, i, m + 1, h1, h2 => by
    rw [l_law15_SpliceTurns_1_s, cd, if_neg (by omega)]
  | k + 1, i, m + 1, h1, h2 => by
    have hl := tw_len hT
    obtain ⟨x, hx⟩ := get_at (xs := t) (i := i) (by omega)
    have hx2 : (t.map H)[i]? = some (H x) := by rw [List.getElem?_map, hx]; rfl
    rw [l_law15_SpliceTurns_1_s, cd, if_pos (by omega), nth_of hx, ob, height_tw N hN hf (hm x (List.mem_of_getElem? hx)), ob, nth_of hx2, ob, cdn, if_pos rfl, w64n (by omega)]
    exact turns_loop N hN hT hf hm k (i + 1) m (by omega) (by omega)
/-- a tower that is right: its heights as a law of tokens -/
theorem right_ex {t t2 : List Int} {t3 : List (List Int)} (h : TowerR t t2 t3) : ∃ H : Int → Int, t2 = t.map H ∧ t3 = nextOf (t.map H) ∧ TowR t (t.map H) := by
  have h1 := hgt_map h.1
  exact ⟨hgt t t2, h1.symm, by rw [h1]; exact h.2, by rw [h1]; exact h.1⟩
theorem spliceTurns_eq (N : Nat) (hN : Fu + 12 ≤ N) (t t2 : List Int) (t3 : List (List Int)) (k : Int) (ht : Lens (t, t2, t3)) (h0 : 0 ≤ k) (h1 : k ≤ 255) : m_law15_SpliceTurns N (t, t2, t3, k) = some true := by
  obtain ⟨N, rfl⟩ : ∃ n, N = n + 1 := ⟨N - 1, by omega⟩
  obtain ⟨g, hg⟩ := great_ex N (by omega) 200 t t2 t3 ht.2.2.1
  have a1 := ht.1
  have a2 := ht.2.1
  simp only at a1 a2
  rw [m_law15_SpliceTurns_eq, alive_eq N (by omega), ob, Bool.not_true, cond_false, hg, ob]
  cases g with
  | true => rfl
  | false =>
    rw [cond_false, rright_eq N (by omega) _ _ _ a1 a2, ob, cdn]
    by_cases hT : TowerR t t2 t3
    · rw [if_pos hT]
      obtain ⟨H, rfl, rfl, h⟩ := right_ex hT
      have hl := tw_len h
      obtain ⟨z, x, p1, p2, hx⟩ := pick_of t hl.1 hl.2.2 k h0 h1
      obtain ⟨t0, ht0⟩ := get_at (xs := t) (i := 0) hl.2.2
      have hm0 := List.mem_of_getElem? ht0
      obtain ⟨f1, hf⟩ := from_tw N (by omega) h hx
      obtain ⟨f2, hf2⟩ := from_tw N (by omega) hf (rotAt_mem.2 hm0)
      have hback : rotAt (rotAt t x) t0 = t := (rotAt2 h.2.2.1.2.2 hm0).trans (rotAt_zero ht0)
      rw [hback] at f2
      have hlf := tw_len hf
      have hlr := rotAt_len t x
      rw [p1, ob, p2, ob, f1, ob, show (0 : Int) = ((0 : Nat) : Int) from rfl, nth_of ht0, ob]
      dsimp only
      rw [f2, ob]
      dsimp only
      simp only [Bool.not_true, cond_false]
      rw [cdn, if_pos (by omega), nth_of (rotAt_first hx), ob, cdn, if_pos rfl, rsame_eq N (by omega) _ _ _ _ _ _ (build_lens h), ob, cdn, if_pos rfl, turns_loop N (by omega) h hf (fun z hz => rotAt_mem.2 hz) t.length 0 N (by omega) (by have := Fu_eq; omega), ob]
      dsimp only
      have l1 := links_tw_len h
      have l2 := links_tw_len hf
      rw [links_tw N (by omega) h, ob, links_tw N (by omega) hf, ob, changed_eq N (by omega) _ _ (by omega) (by omega), ob, chg_same (fun s => lk_rot h hf (fun z => rotAt_mem.symm) (fun z hz => (rotAt2 h.2.2.1.2.2 hz).symm) (fun _ _ => rfl) s), cd, if_pos rfl, right_tw N (by omega) hf, ob]
    · rw [if_neg hT]

/-! cut -/
theorem cut_tw (N : Nat) (hN : Fu + 8 ≤ N) {t : List Int} {H : Int → Int} (h : TowR t (t.map H)) {x y : Int} (hx : x ∈ t) (hy : y ∈ t) (hne : x ≠ y) : ∃ R P S : List Int,
    m_splice_Cut N (t, (t.map H, (nextOf (t.map H), (x, y)))) = some (true, R, R.map H, nextOf (R.map H), P, P.map H, nextOf (P.map H)) ∧ TowR R (R.map H) ∧ TowR P (P.map H) ∧ x ∈ R ∧ rotAt R x = x :: S ∧ rotAt t x = x :: (P ++ S) ∧ (∀ z, z ∈ R ↔ z ∈ S ++ [x]) ∧ (∀ z, z ∈ t ↔ z ∈ P ++ (S ++ [x])) ∧ (P ++ (S ++ [x])).Nodup := by
  have hl := tw_len h
  obtain ⟨R, P, S, c1, c2, c3, c4, c5, c6, c7, c8, c9, c10⟩ := cut_rings h.2.2.1 hx hy hne
  have hH : ∀ z, z ∈ t → hgt t (t.map H) z = H z := fun z hz => hgt_of h hz
  have hHb : ∀ z, z ∈ t → 1 ≤ H z ∧ H z ≤ 8 := fun z hz => by rw [← hH z hz]; exact hgt_in h hz
  have tR : TowR R (R.map H) := towR_of c4 (List.ne_nil_of_mem c6) fun z hz => hHb z ((c8 z).2 (.inl hz))
  have tP : TowR (P ++ [y]) ((P ++ [y]).map H) := towR_of c5 (by simp) fun z hz => hHb z ((c8 z).2 (.inr hz))
  have hnd : (x :: (P ++ [y] ++ S)).Nodup := by rw [← c3]; exact rot_nodup.2 h.2.2.1.2.2
  refine ⟨R, P ++ [y], S, ?_, tR, tP, c6, c2, c3, fun z => ?_, fun z => ?_, ?_⟩
  · rw [scut_eq N hN _ _ _ _ _ (by omega) (by omega), scT, if_pos ⟨tw h, hx, hy, hne⟩, c1]
    simp only
    rw [towOf_congr (G := H) (fun z hz => hH z ((c8 z).2 (.inl hz))), towOf_congr (l := P ++ [y]) (G := H) (fun z hz => hH z ((c8 z).2 (.inr hz))), towOf_pos tR, towOf_pos tP]
  · rw [c7 z, List.mem_append, List.mem_singleton, Or.comm]
  · rw [c8 z, c7 z]
    simp only [List.mem_append, List.mem_singleton]
    constructor
    · rintro ((h | h) | h)
      · exact .inr (.inr h)
      · exact .inr (.inl h)
      · exact .inl h
    · rintro (h | h | h)
      · exact .inr h
      · exact .inl (.inr h)
      · exact .inl (.inl h)
  · rw [← List.append_assoc]
    have p : ([x] ++ (P ++ [y] ++ S)).Perm ((P ++ [y] ++ S) ++ [x]) := List.perm_append_comm
    exact p.nodup_iff.1 hnd
theorem cut_self_tw (N : Nat) (hN : Fu + 8 ≤ N) {t : List Int} {H : Int → Int} (h : TowR t (t.map H)) (x : Int) : m_splice_Cut N (t, (t.map H, (nextOf (t.map H), (x, x)))) = some (false, [], [], [], [], [], []) := by
  have hl := tw_len h
  rw [scut_eq N hN _ _ _ _ _ (by omega) (by omega), scT, if_neg (fun e => e.2.2.2 rfl)]
theorem most_loop (N : Nat) (n : Int) (t hs : List Int) (t3 : List (List Int)) (l : List Lnk) (hh : HighR hs) (hn : n = ((hs.length : Nat) : Int)) (hm : hs.length ≤ 1000) : ∀ (k i m : Nat) (most : Int), i + k = hs.length → k < m → 0 ≤ most → most ≤ 8 → (∀ j, j < i → hAt hs j ≤ most) →
    ∃ r, l_law15_SpliceFew_1 N m (n, most, (i : Int), t, hs, t3, l) = some (r, t, hs, t3, l) ∧ 0 ≤ r ∧ r ≤ 8 ∧ ∀ j, j < hs.length → hAt hs j ≤ r
  | k, i, 0, most, h1, h2, h3, h4, h5 => by omega
  | 0, i, m + 1, most, h1, h2, h3, h4, h5 => by
    refine ⟨most, ?_, h3, h4, fun j hj => h5 j (by omega)⟩
    rw [l_law15_SpliceFew_1_s, cd, if_neg (by omega)]
  | k + 1, i, m + 1, most, h1, h2, h3, h4, h5 => by
    have hx := hAt_get (hs := hs) (j := i) (by omega)
    have h8 := high_at hh (j := i) (by omega)
    rw [l_law15_SpliceFew_1_s, cd, if_pos (by omega), nth_of hx, ob, w64n (by omega)]
    by_cases c : hAt hs i > most
    · rw [if_pos c]
      refine most_loop N n t hs t3 l hh hn hm k (i + 1) m _ (by omega) (by omega) (by omega) (by omega) fun j hj => ?_
      by_cases hji : j = i
      · subst hji; omega
      · have := h5 j (by omega); omega
    · rw [if_neg c]
      refine most_loop N n t hs t3 l hh hn hm k (i + 1) m _ (by omega) (by omega) (by omega) (by omega) fun j hj => ?_
      by_cases hji : j = i
      · subst hji; omega
      · exact h5 j (by omega)
theorem most_all {l : List Int} {H : Int → Int} {r : Int} (h : ∀ j, j < (l.map H).length → hAt (l.map H) j ≤ r) : ∀ z ∈ l, H z ≤ r := fun z hz => by
  obtain ⟨j, hj, rfl⟩ := List.getElem_of_mem hz
  have := h j (by simpa using hj)
  rw [getD_map (List.getElem?_eq_getElem hj)] at this
  exact this
theorem spliceFew_eq (N : Nat) (hN : Fu + 12 ≤ N) (t t2 : List Int) (t3 : List (List Int)) (k q : Int) (ht : Lens (t, t2, t3)) (h0 : 0 ≤ k ∧ k ≤ 255) (h1 : 0 ≤ q ∧ q ≤ 255) : m_law15_SpliceFew N (t, t2, t3, k, q) = some true := by
  obtain ⟨N, rfl⟩ : ∃ n, N = n + 1 := ⟨N - 1, by omega⟩
  obtain ⟨g, hg⟩ := great_ex N (by omega) 200 t t2 t3 ht.2.2.1
  have a1 := ht.1
  have a2 := ht.2.1
  simp only at a1 a2
  rw [m_law15_SpliceFew_eq, alive_eq N (by omega), ob, Bool.not_true, cond_false, hg, ob]
  cases g with
  | true => rfl
  | false =>
    rw [cond_false, rright_eq N (by omega) _ _ _ a1 a2, ob, cdn]
    by_cases hT : TowerR t t2 t3
    · rw [if_pos hT]
      obtain ⟨H, rfl, rfl, h⟩ := right_ex hT
      have hl := tw_len h
      obtain ⟨z, x, p1, p2, hx⟩ := pick_of t hl.1 hl.2.2 k h0.1 h0.2
      obtain ⟨z2, y, p3, p4, hy⟩ := pick_of t hl.1 hl.2.2 q h1.1 h1.2
      rw [p1, ob, p2, ob, p3, ob, p4, ob]
      by_cases hne : x = y
      · subst hne
        rw [cut_self_tw N (by omega) h x, ob]
        simp
      · obtain ⟨R, P, S, c1, tR, tP, c2, c3, c4, c5, c6, c7⟩ := cut_tw N (by omega) h hx hy hne
        rw [c1, ob]
        dsimp only
        simp only [Bool.not_true, cond_false]
        have l0 := links_tw_len h
        have l1 := links_tw_len tR
        have l2 := links_tw_len tP
        obtain ⟨r, r1, r2, r3, r4⟩ := most_loop N ((t.length : Nat) : Int) t (t.map H) (nextOf (t.map H)) (linksL R (R.map H) ++ linksL P (P.map H)) h.2.2.2 (by simp) (by simp; omega) t.length 0 N 0 (by simp) (by have := Fu_eq; omega) (by omega) (by omega) (fun j hj => by omega)
        have e1 : l_law15_SpliceFew_1 N N ((((List.length t) : Nat) : Int), ((0 : Int), ((0 : Int), (t, (t.map H, (nextOf (t.map H), linksL R (R.map H) ++ linksL P (P.map H))))))) = _ := r1
        rw [links_tw N (by omega) tR, ob, links_tw N (by omega) tP, ob, app_of (by omega) (by omega), ob, e1, ob]
        dsimp only
        have nR := tR.2.2.1.2.2
        have nP := tP.2.2.1.2.2
        have nT := h.2.2.1.2.2
        have few := two_few (A := P) (B := S ++ [x]) (most := r) c7 tP tR h (fun z => Iff.rfl) c5 c6 (fun z hz => rfl) (fun z hz => rot_cons nR c3 ((c5 z).2 hz)) (fun z hz => by rw [← List.append_assoc]; exact rot_cons nT c4 ((c6 z).2 hz)) (most_all r4)
        have cnt := two_count (A := P) (B := S ++ [x]) (H := H) c7 nP nR nT (fun z => Iff.rfl) c5 c6
        rw [links_tw N (by omega) h, ob, changed_eq N (by omega) _ _ (by omega) (by rw [List.length_append]; omega), ob, w64 (by omega) (by omega), cd, if_pos (by omega), ob, cnt]
        simp
    · rw [if_neg hT]

/-! joined -/
theorem join_yes {R P S : List Int} {x z : Int} (hR : RingR R) (hx : x ∈ R) (hS : rotAt R x = x :: S) (hP : RingR P) (hz : P[0]? = some z) (hr : RingR (x :: (P ++ S))) : (joinOf R x P z).1 = true := by
  have hzm := List.mem_of_getElem? hz
  obtain ⟨U, T, e, h1, h2, h3⟩ := join_form hR hx hP hzm
  rw [rotAt_zero hz] at h2
  have hST : S = T ++ U := by rw [hS] at h3; exact (List.cons.inj h3).2
  have hk : RingR (insOf (plainOf R) (ix (plainOf R) x + 1) (rotAt P z)) := by
    rw [rotAt_zero hz, h2]
    refine rotAt_ring (v := x).1 ?_
    rw [rotAt_mid h1]
    rw [hST] at hr
    simpa using hr
  unfold joinOf
  rw [if_pos ⟨⟨hR, hx⟩, ⟨hP, hzm⟩, hk⟩]
theorem join_tw (N : Nat) (hN : Fu + 8 ≤ N) {a b : List Int} {H : Int → Int} (ha : TowR a (a.map H)) (hb : TowR b (b.map H)) {x y : Int} (h : (joinOf a x b y).1 = true) : ∃ J, m_splice_Join N (a, (a.map H, (nextOf (a.map H), (x, (b, (b.map H, (nextOf (b.map H), y))))))) = some (true, J, J.map H, nextOf (J.map H)) ∧ TowR J (J.map H) ∧
    (∀ z, z ∈ J ↔ z ∈ a ∨ z ∈ b) ∧ (∀ z, z ∈ a → z ∉ b) ∧ x ∈ a ∧ y ∈ b ∧ ∃ S, rotAt a x = x :: S ∧ rotAt J x = x :: (rotAt b y ++ S) := by
  have la := tw_len ha
  have lb := tw_len hb
  obtain ⟨⟨j1, j2⟩, ⟨j3, j4⟩, j5, j6, j7, S, j8, j9, j10⟩ := join_ok h
  have hH : ∀ z, z ∈ a ∨ z ∈ b → H2 a (a.map H) b (b.map H) z = H z := fun z hz => by
    unfold H2
    split
    · rename_i hzb; exact hgt_of hb hzb
    · rename_i hzb; exact hgt_of ha (hz.resolve_right hzb)
  have tJ : TowR (joinOf a x b y).2 ((joinOf a x b y).2.map H) := by
    have := join_tow ha hb h
    rw [List.map_congr_left (fun z hz => hH z ((j6 z).1 hz))] at this
    exact this
  refine ⟨(joinOf a x b y).2, ?_, tJ, j6, j7, j2, j4, S, j8, j9⟩
  rw [sjoin_eq N hN _ _ _ _ _ _ _ _ (by omega) (by omega) (by omega) (by omega), sjT, if_pos ⟨tw ha, tw hb⟩, h, towOf_congr (fun z hz => hH z ((j6 z).1 hz)), towOf_pos tJ]
theorem join_no_tw (N : Nat) (hN : Fu + 8 ≤ N) {a b : List Int} {H G : Int → Int} (ha : TowR a (a.map H)) (hb : TowR b (b.map G)) {x y : Int} (h : (joinOf a x b y).1 = false) : m_splice_Join N (a, (a.map H, (nextOf (a.map H), (x, (b, (b.map G, (nextOf (b.map G), y))))))) = some (false, [], [], []) := by
  have la := tw_len ha
  have lb := tw_len hb
  rw [sjoin_eq N hN _ _ _ _ _ _ _ _ (by omega) (by omega) (by omega) (by omega), sjT, if_pos ⟨tw ha, tw hb⟩, join_no h, towOf_nil]
theorem spliceBack_eq (N : Nat) (hN : Fu + 12 ≤ N) (t t2 : List Int) (t3 : List (List Int)) (k q : Int) (ht : Lens (t, t2, t3)) (h0 : 0 ≤ k ∧ k ≤ 255) (h1 : 0 ≤ q ∧ q ≤ 255) : m_law15_SpliceBack N (t, t2, t3, k, q) = some true := by
  obtain ⟨N, rfl⟩ : ∃ n, N = n + 1 := ⟨N - 1, by omega⟩
  obtain ⟨g, hg⟩ := great_ex N (by omega) 200 t t2 t3 ht.2.2.1
  have a1 := ht.1
  have a2 := ht.2.1
  simp only at a1 a2
  rw [m_law15_SpliceBack_eq, alive_eq N (by omega), ob, Bool.not_true, cond_false, hg, ob]
  cases g with
  | true => rfl
  | false =>
    rw [cond_false, rright_eq N (by omega) _ _ _ a1 a2, ob, cdn]
    by_cases hT : TowerR t t2 t3
    · rw [if_pos hT]
      obtain ⟨H, rfl, rfl, h⟩ := right_ex hT
      have hl := tw_len h
      obtain ⟨z, x, p1, p2, hx⟩ := pick_of t hl.1 hl.2.2 k h0.1 h0.2
      obtain ⟨z2, y, p3, p4, hy⟩ := pick_of t hl.1 hl.2.2 q h1.1 h1.2
      rw [p1, ob, p2, ob, p3, ob, p4, ob]
      by_cases hne : x = y
      · subst hne
        rw [cut_self_tw N (by omega) h x, ob]
        simp [IntKind.wrap, IntKind.bits, IntKind.signed]
      · obtain ⟨R, P, S, c1, tR, tP, c2, c3, c4, c5, c6, c7⟩ := cut_tw N (by omega) h hx hy hne
        have lP := tw_len tP
        obtain ⟨p0, hp0⟩ := get_at (xs := P) (i := 0) lP.2.2
        have hrt : RingR (x :: (P ++ S)) := by rw [← c4]; exact rotAt_ring.2 h.2.2.1
        have hj := join_yes tR.2.2.1 c2 c3 tP.2.2.1 hp0 hrt
        obtain ⟨J, j1, tJ, j2, j3, j4, j5, S', j6, j7⟩ := join_tw N (by omega) tR tP hj
        have hS : S' = S := by rw [c3] at j6; exact (List.cons.inj j6).2.symm
        subst hS
        rw [rotAt_zero hp0] at j7
        have hJt : rotAt J x = rotAt t x := j7.trans c4.symm
        have hmJ : ∀ w, w ∈ t ↔ w ∈ J := fun w => by rw [← rotAt_mem (l := t) (v := x), ← rotAt_mem (l := J) (v := x), hJt]
        have hxJ : x ∈ J := (hmJ x).1 hx
        obtain ⟨f1, tf⟩ := from_tw N (by omega) h hx
        obtain ⟨f2, tg⟩ := from_tw N (by omega) tJ hxJ
        rw [hJt] at f2
        have l0 := links_tw_len h
        have l1 := links_tw_len tJ
        rw [c1, ob]
        dsimp only
        simp only [Bool.not_true, cond_false]
        rw [cd, if_neg (by omega), show (0 : Int) = ((0 : Nat) : Int) from rfl, nth_of hp0, ob, j1, ob, f1, ob]
        dsimp only
        rw [f2, ob]
        dsimp only
        simp only [cond_true]
        rw [right_tw N (by omega) tR, ob, cond_true, right_tw N (by omega) tP, ob, cond_true, rsame_eq N (by omega) _ _ _ _ _ _ (build_lens tf), ob, cd, if_pos rfl, links_tw N (by omega) h, ob, links_tw N (by omega) tJ, ob, changed_eq N (by omega) _ _ (by omega) (by omega), ob,
          chg_same (fun s => lk_rot h tJ hmJ (fun w hw => by rw [← rotAt2 (x := x) h.2.2.1.2.2 hw, ← hJt, rotAt2 tJ.2.2.1.2.2 ((hmJ w).1 hw)]) (fun _ _ => rfl) s)]
        rfl
    · rw [if_neg hT]
theorem most2_loop (N : Nat) (x y : Int) (a a2 : List Int) (a3 : List (List Int)) (b b2 : List Int) (b3 : List (List Int)) (j j2 : List Int) (j3 : List (List Int)) (hh : HighR b2) (hm : b2.length ≤ 1000) : ∀ (k i m : Nat) (most : Int), i + k = b2.length → k < m → 0 ≤ most → most ≤ 8 → (∀ q, q < i → hAt b2 q ≤ most) →
    ∃ r, l_law15_SpliceJoins_2 N m (x, y, most, (i : Int), a, a2, a3, b, b2, b3, j, j2, j3) = some (x, y, r, a, a2, a3, b, b2, b3, j, j2, j3) ∧ most ≤ r ∧ r ≤ 8 ∧ ∀ q, q < b2.length → hAt b2 q ≤ r
  | k, i, 0, most, h1, h2, h3, h4, h5 => by omega
  | 0, i, m + 1, most, h1, h2, h3, h4, h5 => by
    refine ⟨most, ?_, Int.le_refl _, h4, fun q hq => h5 q (by omega)⟩
    rw [l_law15_SpliceJoins_2_s, cd, if_neg (by omega)]
  | k + 1, i, m + 1, most, h1, h2, h3, h4, h5 => by
    have hx := hAt_get (hs := b2) (j := i) (by omega)
    have h8 := high_at hh (j := i) (by omega)
    rw [l_law15_SpliceJoins_2_s, cd, if_pos (by omega), nth_of hx, ob, w64n (by omega)]
    by_cases c : hAt b2 i > most
    · rw [if_pos c]
      obtain ⟨r, e1, e2, e3⟩ := most2_loop N x y a a2 a3 b b2 b3 j j2 j3 hh hm k (i + 1) m (hAt b2 i) (by omega) (by omega) (by omega) (by omega) fun q hq => by
        by_cases hqi : q = i
        · subst hqi; omega
        · have := h5 q (by omega); omega
      exact ⟨r, e1, by omega, e3⟩
    · rw [if_neg c]
      refine most2_loop N x y a a2 a3 b b2 b3 j j2 j3 hh hm k (i + 1) m _ (by omega) (by omega) (by omega) (by omega) fun q hq => ?_
      by_cases hqi : q = i
      · subst hqi; omega
      · exact h5 q (by omega)
theorem most1_loop (N : Nat) (x y : Int) (a a2 : List Int) (a3 : List (List Int)) (b b2 : List Int) (b3 : List (List Int)) (j j2 : List Int) (j3 : List (List Int)) (hh : HighR a2) (hm : a2.length ≤ 1000) : ∀ (k i m : Nat) (most : Int), i + k = a2.length → k < m → 0 ≤ most → most ≤ 8 → (∀ q, q < i → hAt a2 q ≤ most) →
    ∃ r, l_law15_SpliceJoins_1 N m (x, y, most, (i : Int), a, a2, a3, b, b2, b3, j, j2, j3) = some (x, y, r, a, a2, a3, b, b2, b3, j, j2, j3) ∧ most ≤ r ∧ r ≤ 8 ∧ ∀ q, q < a2.length → hAt a2 q ≤ r
  | k, i, 0, most, h1, h2, h3, h4, h5 => by omega
  | 0, i, m + 1, most, h1, h2, h3, h4, h5 => by
    refine ⟨most, ?_, Int.le_refl _, h4, fun q hq => h5 q (by omega)⟩
    rw [l_law15_SpliceJoins_1_s, cd, if_neg (by omega)]
  | k + 1, i, m + 1, most, h1, h2, h3, h4, h5 => by
    have hx := hAt_get (hs := a2) (j := i) (by omega)
    have h8 := high_at hh (j := i) (by omega)
    rw [l_law15_SpliceJoins_1_s, cd, if_pos (by omega), nth_of hx, ob, w64n (by omega)]
    by_cases c : hAt a2 i > most
    · rw [if_pos c]
      obtain ⟨r, e1, e2, e3⟩ := most1_loop N x y a a2 a3 b b2 b3 j j2 j3 hh hm k (i + 1) m (hAt a2 i) (by omega) (by omega) (by omega) (by omega) fun q hq => by
        by_cases hqi : q = i
        · subst hqi; omega
        · have := h5 q (by omega); omega
      exact ⟨r, e1, by omega, e3⟩
    · rw [if_neg c]
      refine most1_loop N x y a a2 a3 b b2 b3 j j2 j3 hh hm k (i + 1) m _ (by omega) (by omega) (by omega) (by omega) fun q hq => ?_
      by_cases hqi : q = i
      · subst hqi; omega
      · exact h5 q (by omega)
/-- heights of two rings that share no token, as one law of tokens -/
theorem one_law {a b : List Int} {H G : Int → Int} (hd : ∀ z, z ∈ a → z ∉ b) : ∃ K : Int → Int, a.map H = a.map K ∧ b.map G = b.map K := by
  refine ⟨fun z => if z ∈ b then G z else H z, List.map_congr_left fun z hz => ?_, List.map_congr_left fun z hz => ?_⟩
  · rw [if_neg (hd z hz)]
  · rw [if_pos hz]
theorem spliceJoins_eq (N : Nat) (hN : Fu + 12 ≤ N) (a a2 : List Int) (a3 : List (List Int)) (b b2 : List Int) (b3 : List (List Int)) (k q : Int) (ha : Lens (a, a2, a3)) (hb : Lens (b, b2, b3)) (h0 : 0 ≤ k ∧ k ≤ 255) (h1 : 0 ≤ q ∧ q ≤ 255) : m_law15_SpliceJoins N (a, a2, a3, b, b2, b3, k, q) = some true := by
  obtain ⟨N, rfl⟩ : ∃ n, N = n + 1 := ⟨N - 1, by omega⟩
  obtain ⟨g, hg⟩ := great_ex N (by omega) 150 a a2 a3 ha.2.2.1
  obtain ⟨g2, hg2⟩ := great_ex N (by omega) 150 b b2 b3 hb.2.2.1
  have i1 := ha.1
  have i2 := ha.2.1
  have i3 := hb.1
  have i4 := hb.2.1
  simp only at i1 i2 i3 i4
  rw [m_law15_SpliceJoins_eq, alive_eq N (by omega), ob, Bool.not_true, cond_false, hg, ob]
  cases g with
  | true => rfl
  | false =>
    rw [cond_false, hg2, ob]
    cases g2 with
    | true => rfl
    | false =>
      rw [cond_false, rright_eq N (by omega) _ _ _ i1 i2, ob, cdn]
      by_cases hTa : TowerR a a2 a3
      · rw [if_pos hTa, rright_eq N (by omega) _ _ _ i3 i4, ob, cdn]
        by_cases hTb : TowerR b b2 b3
        · rw [if_pos hTb]
          clear hg hg2 ha hb
          obtain ⟨Ha, rfl, rfl, ta⟩ := right_ex hTa
          obtain ⟨Hb, rfl, rfl, tb⟩ := right_ex hTb
          have la := tw_len ta
          have lb := tw_len tb
          obtain ⟨z, x, p1, p2, hx⟩ := pick_of a la.1 la.2.2 k h0.1 h0.2
          obtain ⟨z2, y, p3, p4, hy⟩ := pick_of b lb.1 lb.2.2 q h1.1 h1.2
          rw [p1, ob, p2, ob, p3, ob, p4, ob]
          cases hj : (joinOf a x b y).1 with
          | false =>
            rw [join_no_tw N (by omega) ta tb hj, ob]
            simp
          | true =>
            obtain ⟨_, _, _, _, hd, _⟩ := join_ok hj
            obtain ⟨H, ea, eb⟩ := one_law (H := Ha) (G := Hb) hd
            rw [ea] at ta ⊢
            rw [eb] at tb ⊢
            obtain ⟨J, j1, tJ, j2, j3, j4, j5, S, j6, j7⟩ := join_tw N (by omega) ta tb hj
            have lJ := tw_len tJ
            obtain ⟨r, r1, r2, r3, r4⟩ := most1_loop N x y a (a.map H) (nextOf (a.map H)) b (b.map H) (nextOf (b.map H)) J (J.map H) (nextOf (J.map H)) ta.2.2.2 (by simp; omega) a.length 0 N 0 (by simp) (by have := Fu_eq; omega) (by omega) (by omega) (fun j hj => by omega)
            obtain ⟨r', r1', r2', r3', r4'⟩ := most2_loop N x y a (a.map H) (nextOf (a.map H)) b (b.map H) (nextOf (b.map H)) J (J.map H) (nextOf (J.map H)) tb.2.2.2 (by simp; omega) b.length 0 N r (by simp) (by have := Fu_eq; omega) (by omega) (by omega) (fun j hj => by omega)
            have l0 := links_tw_len ta
            have l1 := links_tw_len tb
            have l2 := links_tw_len tJ
            have e1 : l_law15_SpliceJoins_1 N N (x, (y, ((0 : Int), ((0 : Int), (a, (a.map H, (nextOf (a.map H), (b, (b.map H, (nextOf (b.map H), (J, (J.map H, nextOf (J.map H))))))))))))) = _ := r1
            have e2 : l_law15_SpliceJoins_2 N N (x, (y, (r, ((0 : Int), (a, (a.map H, (nextOf (a.map H), (b, (b.map H, (nextOf (b.map H), (J, (J.map H, nextOf (J.map H))))))))))))) = _ := r1'
            rw [j1, ob]
            dsimp only
            simp only [Bool.not_true, cond_false]
            rw [e1, ob]
            dsimp only
            rw [e2, ob]
            dsimp only
            have nA := ta.2.2.1.2.2
            have nB := tb.2.2.1.2.2
            have nJ := tJ.2.2.1.2.2
            have hxJ : x ∈ J := (j2 x).2 (.inl j4)
            have mA : ∀ z, z ∈ b ↔ z ∈ rotAt b y := fun z => rotAt_mem.symm
            have mB : ∀ z, z ∈ a ↔ z ∈ S ++ [x] := fun z => by
              rw [← rotAt_mem (v := x), j6, List.mem_cons, List.mem_append, List.mem_singleton, Or.comm]
            have mT : ∀ z, z ∈ J ↔ z ∈ rotAt b y ++ (S ++ [x]) := fun z => by rw [j2, List.mem_append, ← mA, ← mB, Or.comm]
            have hnd : (rotAt b y ++ (S ++ [x])).Nodup := by
              have p : ([x] ++ (rotAt b y ++ S)).Perm ((rotAt b y ++ S) ++ [x]) := List.perm_append_comm
              rw [← List.append_assoc]
              refine p.nodup_iff.1 ?_
              have : (rotAt J x).Nodup := rot_nodup.2 nJ
              rw [j7] at this
              exact this
            have few := two_few (A := rotAt b y) (B := S ++ [x]) (most := r') hnd tb ta tJ mA mB mT (fun z hz => (rotAt2 nB (rotAt_mem.1 hz)).symm) (fun z hz => rot_cons nA j6 ((mB z).2 hz)) (fun z hz => by rw [← List.append_assoc]; exact rot_cons nJ j7 ((mT z).2 hz)) (fun z hz => by
              rcases (j2 z).1 hz with h | h
              · have := most_all r4 z h; omega
              · exact most_all r4' z h)
            have cnt := two_count (A := rotAt b y) (B := S ++ [x]) (H := H) hnd nB nA nJ mA mB mT
            have lenJ : J.length = a.length + b.length := by
              have h1 := rotAt_len J x
              have h2 := rotAt_len a x
              have h3 := rotAt_len b y
              rw [j7] at h1
              rw [j6] at h2
              simp at h1 h2
              omega
            rw [links_tw N (by omega) ta, ob, app_of (by omega) (by simp; omega), ob, links_tw N (by omega) tb, ob, List.nil_append, app_of (by omega) (by omega), ob, links_tw N (by omega) tJ, ob, w64 (by omega) (by omega), cd, if_pos (by omega), height_tw N (by omega) tJ hxJ, ob, height_tw N (by omega) ta j4, ob, cd, if_pos rfl,
              height_tw N (by omega) tJ ((j2 y).2 (.inr j5)), ob, height_tw N (by omega) tb j5, ob, cd, if_pos rfl, cd, if_pos (by rw [cnt]), changed_eq N (by omega) _ _ (by rw [List.length_append]; omega) (by omega), ob, w64 (by omega) (by omega), chg_comm]
            congr 1
            rw [decide_eq_true_eq]
            omega
        · rw [if_neg hTb]
      · rw [if_neg hTa]
end Go.Proofs.Ytggnolfcgaglfaa
