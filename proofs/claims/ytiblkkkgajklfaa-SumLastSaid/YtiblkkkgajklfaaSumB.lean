/- Sums, built: the program's (printed by wip/plain/gensum.py: twice alike, for weights that are read, and for weights that are handed over). -/
import Derived.Test.YtiblkkkgajklfaaSumA
set_option linter.unusedVariables false
set_option linter.unusedSimpArgs false
namespace Go.Proofs.Ytiblkkkgajklfaa
open Go Go.RowKit

theorem sb1 (N : Nat) (n0 : Int) (w t t2 : List Int) (t3 : List (List Int)) (hw : OddR w) (h1000 : w.length ≤ 1000) : ∀ (k i m : Nat), i + k = w.length → k < m →
    l_sum_Build_1 N m (n0, w, ((w.length : Nat) : Int), (i : Int), t, t2, t3, ((List.range (w.length + 1)).map fun j => if j ≤ i then pre w j else 0)) = some (n0, t, t2, t3, ((List.range (w.length + 1)).map (pre w)))
  | k, i, 0, h1, h2 => by omega
  | 0, i, m + 1, h1, h2 => by
    rw [l_sum_Build_1_s, cd, if_neg (by omega)]
    have : ((List.range (w.length + 1)).map fun j => if j ≤ i then pre w j else 0) = (List.range (w.length + 1)).map (pre w) := List.map_congr_left fun j hj => by
      have := List.mem_range.1 hj
      rw [if_pos (by omega)]
    rw [this]
  | k + 1, i, m + 1, h1, h2 => by
    have hx := hAt_get (hs := w) (j := i) (by omega)
    have hg := map_get (w.length + 1) i (fun j => if j ≤ i then pre w j else 0) (by omega)
    have hg2 := map_get (w.length + 1) (i + 1) (fun j => if j ≤ i then pre w j else 0) (by omega)
    simp only [Nat.le_refl, if_true] at hg
    have b1 := pre_le hw i
    have b2 := odd_at hw i
    rw [l_sum_Build_1_s, cd, if_pos (by omega), nth_of hx, ob, nth_of hg, ob, ob, w64n (by omega), nth_of hg2, ob, ob, w64 (x := pre w i + hAt w i) (by omega) (by omega), Int.toNat_natCast, set_map]
    have : ((List.range (w.length + 1)).map fun j => if j = i + 1 then pre w i + hAt w i else if j ≤ i then pre w j else 0) = (List.range (w.length + 1)).map fun j => if j ≤ i + 1 then pre w j else 0 := List.map_congr_left fun j hj => by
      by_cases e : j = i + 1
      · subst e
        rw [if_pos rfl, if_pos (Nat.le_refl _), pre]
      · rw [if_neg e]
        by_cases e2 : j ≤ i
        · rw [if_pos e2, if_pos (by omega)]
        · rw [if_neg e2, if_neg (by omega)]
    rw [this]
    exact sb1 N n0 w t t2 t3 hw h1000 k (i + 1) m (by omega) (by omega)
theorem sb3 (N : Nat) (hN : Fu + 1 ≤ N) (hs w : List Int) (v56 sums : List (List Int)) (v57 v58 : Int) (i H : Nat) (hl : w.length = hs.length) (hw : OddR w) (h1000 : hs.length ≤ 1000) (hi : i < hs.length) (hsl : sums.length = hs.length) (hH : hAt hs i = (H : Int)) (h8 : H ≤ 8) : ∀ (q h m : Nat), h + q = H → q < m →
    l_sum_Build_3 N m (((hs.length : Nat) : Int), (i : Int), v56, v57, v58, linksOf hs i, (H : Int), (h : Int), (List.range (w.length + 1)).map (pre w), sums, (i : Int), ((List.range h).map fun h => segS w i (dist hs i h))) = some (((hs.length : Nat) : Int), v56, v57, v58, (List.range (w.length + 1)).map (pre w), sums, (i : Int), ((List.range H).map fun h => segS w i (dist hs i h)))
  | q, h, 0, h1, h2 => by omega
  | 0, h, m + 1, h1, h2 => by
    rw [l_sum_Build_3_s, cd, if_neg (by omega)]
    have : h = H := by omega
    rw [this]
  | q + 1, h, m + 1, h1, h2 => by
    obtain ⟨N', rfl⟩ : ∃ n, N = n + 1 := ⟨N - 1, by omega⟩
    have hh : (h : Int) < hAt hs i := by omega
    have hml := Nat.mod_lt (i + dist hs i h) (show 0 < hs.length by omega)
    have hk : (linksOf hs i)[h]? = some (((i + dist hs i h) % hs.length : Nat) : Int) := map_get _ _ _ (by omega)
    have g1 := map_get (w.length + 1) ((i + dist hs i h) % hs.length) (pre w) (by omega)
    have g2 := map_get (w.length + 1) i (pre w) (by omega)
    have g3 := map_get (w.length + 1) hs.length (pre w) (by omega)
    obtain ⟨x, gx⟩ := get_at (xs := sums) (i := i) (by omega)
    have b1 := pre_le hw ((i + dist hs i h) % hs.length)
    have b2 := pre_le hw i
    have b3 := pre_le hw hs.length
    have key := link_seg hl hi hh
    have seg8 := seg_le hw i (dist hs i h)
    obtain ⟨_, d1, d2, _⟩ := dist_ok hi hh
    have hap : appI 8 ((List.range h).map fun h => segS w i (dist hs i h)) [segS w i (dist hs i h)] = some ((List.range (h + 1)).map fun h => segS w i (dist hs i h)) := by
      rw [app_of (by omega) (by simp; omega), List.range_succ, List.map_append]; rfl
    have e4 : l_sum_Build_4 (N' + 1) (N' + 1) (((hs.length : Nat) : Int), (i : Int), (((i + dist hs i h) % hs.length : Nat) : Int), IntKind.wrap .i64 (pre w ((i + dist hs i h) % hs.length) - pre w i), v56, v57, v58, linksOf hs i, (H : Int), (h : Int), (List.range (w.length + 1)).map (pre w), sums, (i : Int), ((List.range h).map fun h => segS w i (dist hs i h))) =
        some (((hs.length : Nat) : Int), (i : Int), segS w i (dist hs i h), v56, v57, v58, linksOf hs i, (H : Int), (h : Int), (List.range (w.length + 1)).map (pre w), sums, (i : Int), ((List.range h).map fun h => segS w i (dist hs i h))) := by
      rw [l_sum_Build_4_s, cd, w64 (x := pre w ((i + dist hs i h) % hs.length) - pre w i) (by omega) (by omega)]
      by_cases c : (i + dist hs i h) % hs.length ≤ i
      · rw [if_pos c] at key
        rw [if_pos (by omega), nth_of g3, ob, ob, w64 (by omega) (by omega), key]
      · rw [if_neg c, Int.add_zero] at key
        rw [if_neg (by omega), key]
    rw [l_sum_Build_3_s, cd, if_pos (by omega), nth_of hk, ob, nth_of g1, ob, ob, nth_of g2, ob, ob, e4, ob]
    simp only [nth_of gx, ob, decide_true, cond_true, hap]
    rw [w64n (by omega)]
    exact sb3 (N' + 1) hN hs w v56 sums v57 v58 i H hl hw h1000 hi hsl hH h8 q (h + 1) m (by omega) (by omega)
theorem sb2 (N : Nat) (hN : Fu + 1 ≤ N) (hs w : List Int) (hh : HighR hs) (hl : w.length = hs.length) (hw : OddR w) (h1000 : hs.length ≤ 1000) : ∀ (q i m : Nat), i + q = hs.length → q < m →
    l_sum_Build_2 N m (((hs.length : Nat) : Int), nextOf hs, ((hs.length : Nat) : Int), (i : Int), (List.range (w.length + 1)).map (pre w), ((List.range hs.length).map fun j => if j < i then rowS hs w j else [])) = some (sumsOf hs w)
  | q, i, 0, h1, h2 => by omega
  | 0, i, m + 1, h1, h2 => by
    rw [l_sum_Build_2_s, cd, if_neg (by omega)]
    have : ((List.range hs.length).map fun j => if j < i then rowS hs w j else []) = sumsOf hs w := List.map_congr_left fun j hj => by
      have := List.mem_range.1 hj
      rw [if_pos (by omega)]
    rw [this]
  | q + 1, i, m + 1, h1, h2 => by
    have hb := high_at hh (j := i) (by omega)
    obtain ⟨H, hH⟩ : ∃ H : Nat, hAt hs i = (H : Int) := ⟨_, (Int.toNat_of_nonneg (by omega)).symm⟩
    have hk : (nextOf hs)[i]? = some (linksOf hs i) := map_get _ _ _ (by omega)
    have gs := map_get hs.length i (fun j => if j < i then rowS hs w j else []) (by omega)
    simp only [Nat.lt_irrefl, if_false] at gs
    have e3 := sb3 N hN hs w (nextOf hs) ((List.range hs.length).map fun j => if j < i then rowS hs w j else []) ((hs.length : Nat) : Int) (i : Int) i H hl hw h1000 (by omega) (by simp) hH (by omega) H 0 N (by omega) (by have := Fu_eq; omega)
    rw [show (List.range 0).map (fun h => segS w i (dist hs i h)) = [] from rfl] at e3
    have hlen : (((linksOf hs i).length : Nat) : Int) = (H : Int) := by simp [linksOf, hH]
    have hrow : ((List.range H).map fun h => segS w i (dist hs i h)) = rowS hs w i := by unfold rowS; rw [hH]; rfl
    have hne : isNilL (rowS hs w i) = false := by
      cases hr : rowS hs w i with
      | nil => have := rowS_len hs w i; rw [hr] at this; simp at this; omega
      | cons => rfl
    rw [l_sum_Build_2_s, cd, if_pos (by omega), nth_of hk, ob, nth_of gs, ob]
    rw [show isNilL ([] : List Int) = true from rfl, cond_true, hlen, show ((0 : Int) = ((0 : Nat) : Int)) from rfl, e3, ob]
    simp only [nth_of gs, ob, hrow, hne, cond_false]
    rw [w64n (by omega), Int.toNat_natCast, set_map]
    have : ((List.range hs.length).map fun j => if j = i then rowS hs w i else if j < i then rowS hs w j else []) = (List.range hs.length).map fun j => if j < i + 1 then rowS hs w j else [] := List.map_congr_left fun j hj => by
      by_cases e : j = i
      · subst e; rw [if_pos rfl, if_pos (by omega)]
      · rw [if_neg e]
        by_cases e2 : j < i
        · rw [if_pos e2, if_pos (by omega)]
        · rw [if_neg e2, if_neg (by omega)]
    rw [this]
    exact sb2 N hN hs w hh hl hw h1000 q (i + 1) m (by omega) (by omega)
theorem sbuild_eq (N : Nat) (hN : Fu + 8 ≤ N) (t t2 : List Int) (t3 : List (List Int)) (w : List Int) (h1 : t.length ≤ 9223372036854775807) (h2 : t2.length ≤ 9223372036854775807) (h3 : w.length ≤ 9223372036854775807) : m_sum_Build N (t, t2, t3, w) = some ((sumOf t t2 t3 w).1, (sumOf t t2 t3 w).2) := by
  obtain ⟨N, rfl⟩ : ∃ n, N = n + 1 := ⟨N - 1, by omega⟩
  unfold sumOf
  rw [m_sum_Build_eq, cdn]
  by_cases c1 : w.length ≠ t.length
  · rw [if_neg (by omega), if_neg (fun h => c1 h.1)]
  have c1 := Decidable.not_not.1 c1
  rw [if_pos (by omega), tright_eq N (by omega) t t2 t3 h1 h2, ob]
  by_cases c2 : ¬ TowerR t t2 t3
  · rw [if_neg (fun h => c2 h.2.1)]
    simp [c2]
  have c2 := Decidable.not_not.1 c2
  rw [soddf_eq N (by omega) w h3, ob]
  by_cases c3 : ¬ OddR w
  · rw [if_neg (fun h => c3 h.2.2)]
    simp [c2, c3]
  have c3 := Decidable.not_not.1 c3
  obtain ⟨l1, l2, l3⟩ := towerR_len c2
  rw [if_pos ⟨c1, c2, c3⟩]
  simp only [c2, c3, decide_true, Bool.not_true, cond_false]
  have e1 := sb1 N ((t.length : Nat) : Int) w t t2 t3 c3 (by omega) w.length 0 N (by omega) (by have := Fu_eq; omega)
  have e0 : ((List.range (w.length + 1)).map fun j => if j ≤ 0 then pre w j else 0) = List.replicate (t.length + 1) 0 := by
    rw [c1]
    refine List.ext_getElem? fun j => ?_
    rw [List.getElem?_map, List.getElem?_replicate]
    by_cases hj : j < t.length + 1
    · rw [List.getElem?_range hj, if_pos hj]
      cases j with
      | zero => rfl
      | succ j => simp
    · rw [List.getElem?_eq_none (by simp; omega), if_neg hj]; rfl
  rw [e0] at e1
  have e2 := sb2 N (by omega) t2 w c2.1.2.2.2 (by omega) c3 (by omega) t2.length 0 N (by omega) (by have := Fu_eq; omega)
  have e5 : ((List.range t2.length).map fun j => if j < 0 then rowS t2 w j else []) = List.replicate t2.length [] := by
    refine List.ext_getElem? fun j => ?_
    rw [List.getElem?_map, List.getElem?_replicate]
    by_cases hj : j < t2.length
    · rw [List.getElem?_range hj, if_pos hj]; simp
    · rw [List.getElem?_eq_none (by simp; omega), if_neg hj]; rfl
  rw [e5, ← c2.2] at e2
  have hnl : t3.length = t2.length := by rw [c2.2]; simp [nextOf]
  rw [show (((0 : Nat) : Int) = 0) from rfl] at e1 e2
  rw [w64 (by omega) (by omega), mak_of (by omega) (by omega) (by omega), ob, show ((((t.length : Nat) : Int) + 1).toNat) = t.length + 1 by omega, e1, ob]
  simp only
  rw [mak_of (by omega) (by omega) (by omega), ob, Int.toNat_natCast, hnl, ← l2, e2, ob]

theorem sb1_o (N : Nat) (n0 : Int) (w t t2 : List Int) (t3 : List (List Int)) (hw : OddR w) (h1000 : w.length ≤ 1000) : ∀ (k i m : Nat), i + k = w.length → k < m →
    l_sum_Build_o_1 N m (n0, ((w.length : Nat) : Int), (i : Int), t, t2, t3, ((List.range (w.length + 1)).map fun j => if j ≤ i then pre w j else 0), w) = some (n0, t, t2, t3, ((List.range (w.length + 1)).map (pre w)), w)
  | k, i, 0, h1, h2 => by omega
  | 0, i, m + 1, h1, h2 => by
    rw [l_sum_Build_o_1_s, cd, if_neg (by omega)]
    have : ((List.range (w.length + 1)).map fun j => if j ≤ i then pre w j else 0) = (List.range (w.length + 1)).map (pre w) := List.map_congr_left fun j hj => by
      have := List.mem_range.1 hj
      rw [if_pos (by omega)]
    rw [this]
  | k + 1, i, m + 1, h1, h2 => by
    have hx := hAt_get (hs := w) (j := i) (by omega)
    have hg := map_get (w.length + 1) i (fun j => if j ≤ i then pre w j else 0) (by omega)
    have hg2 := map_get (w.length + 1) (i + 1) (fun j => if j ≤ i then pre w j else 0) (by omega)
    simp only [Nat.le_refl, if_true] at hg
    have b1 := pre_le hw i
    have b2 := odd_at hw i
    rw [l_sum_Build_o_1_s, cd, if_pos (by omega), nth_of hx, ob, ob, nth_of hg, ob, ob, w64n (by omega), nth_of hg2, ob, ob, w64 (x := pre w i + hAt w i) (by omega) (by omega), Int.toNat_natCast, set_map]
    have : ((List.range (w.length + 1)).map fun j => if j = i + 1 then pre w i + hAt w i else if j ≤ i then pre w j else 0) = (List.range (w.length + 1)).map fun j => if j ≤ i + 1 then pre w j else 0 := List.map_congr_left fun j hj => by
      by_cases e : j = i + 1
      · subst e
        rw [if_pos rfl, if_pos (Nat.le_refl _), pre]
      · rw [if_neg e]
        by_cases e2 : j ≤ i
        · rw [if_pos e2, if_pos (by omega)]
        · rw [if_neg e2, if_neg (by omega)]
    rw [this]
    exact sb1_o N n0 w t t2 t3 hw h1000 k (i + 1) m (by omega) (by omega)
theorem sb3_o (N : Nat) (hN : Fu + 1 ≤ N) (hs w : List Int) (v56 sums : List (List Int)) (v57 v58 : Int) (i H : Nat) (hl : w.length = hs.length) (hw : OddR w) (h1000 : hs.length ≤ 1000) (hi : i < hs.length) (hsl : sums.length = hs.length) (hH : hAt hs i = (H : Int)) (h8 : H ≤ 8) : ∀ (q h m : Nat), h + q = H → q < m →
    l_sum_Build_o_3 N m (((hs.length : Nat) : Int), (i : Int), v56, v57, v58, linksOf hs i, (H : Int), (h : Int), (List.range (w.length + 1)).map (pre w), sums, (i : Int), w, ((List.range h).map fun h => segS w i (dist hs i h))) = some (((hs.length : Nat) : Int), v56, v57, v58, (List.range (w.length + 1)).map (pre w), sums, (i : Int), w, ((List.range H).map fun h => segS w i (dist hs i h)))
  | q, h, 0, h1, h2 => by omega
  | 0, h, m + 1, h1, h2 => by
    rw [l_sum_Build_o_3_s, cd, if_neg (by omega)]
    have : h = H := by omega
    rw [this]
  | q + 1, h, m + 1, h1, h2 => by
    obtain ⟨N', rfl⟩ : ∃ n, N = n + 1 := ⟨N - 1, by omega⟩
    have hh : (h : Int) < hAt hs i := by omega
    have hml := Nat.mod_lt (i + dist hs i h) (show 0 < hs.length by omega)
    have hk : (linksOf hs i)[h]? = some (((i + dist hs i h) % hs.length : Nat) : Int) := map_get _ _ _ (by omega)
    have g1 := map_get (w.length + 1) ((i + dist hs i h) % hs.length) (pre w) (by omega)
    have g2 := map_get (w.length + 1) i (pre w) (by omega)
    have g3 := map_get (w.length + 1) hs.length (pre w) (by omega)
    obtain ⟨x, gx⟩ := get_at (xs := sums) (i := i) (by omega)
    have b1 := pre_le hw ((i + dist hs i h) % hs.length)
    have b2 := pre_le hw i
    have b3 := pre_le hw hs.length
    have key := link_seg hl hi hh
    have seg8 := seg_le hw i (dist hs i h)
    obtain ⟨_, d1, d2, _⟩ := dist_ok hi hh
    have hap : appI 8 ((List.range h).map fun h => segS w i (dist hs i h)) [segS w i (dist hs i h)] = some ((List.range (h + 1)).map fun h => segS w i (dist hs i h)) := by
      rw [app_of (by omega) (by simp; omega), List.range_succ, List.map_append]; rfl
    have e4 : l_sum_Build_o_4 (N' + 1) (N' + 1) (((hs.length : Nat) : Int), (i : Int), (((i + dist hs i h) % hs.length : Nat) : Int), IntKind.wrap .i64 (pre w ((i + dist hs i h) % hs.length) - pre w i), v56, v57, v58, linksOf hs i, (H : Int), (h : Int), (List.range (w.length + 1)).map (pre w), sums, (i : Int), w, ((List.range h).map fun h => segS w i (dist hs i h))) =
        some (((hs.length : Nat) : Int), (i : Int), segS w i (dist hs i h), v56, v57, v58, linksOf hs i, (H : Int), (h : Int), (List.range (w.length + 1)).map (pre w), sums, (i : Int), w, ((List.range h).map fun h => segS w i (dist hs i h))) := by
      rw [l_sum_Build_o_4_s, cd, w64 (x := pre w ((i + dist hs i h) % hs.length) - pre w i) (by omega) (by omega)]
      by_cases c : (i + dist hs i h) % hs.length ≤ i
      · rw [if_pos c] at key
        rw [if_pos (by omega), nth_of g3, ob, ob, w64 (by omega) (by omega), key]
      · rw [if_neg c, Int.add_zero] at key
        rw [if_neg (by omega), key]
    rw [l_sum_Build_o_3_s, cd, if_pos (by omega), nth_of hk, ob, nth_of g1, ob, ob, nth_of g2, ob, ob, e4, ob]
    simp only [nth_of gx, ob, decide_true, cond_true, hap]
    rw [w64n (by omega)]
    exact sb3_o (N' + 1) hN hs w v56 sums v57 v58 i H hl hw h1000 hi hsl hH h8 q (h + 1) m (by omega) (by omega)
theorem sb2_o (N : Nat) (hN : Fu + 1 ≤ N) (hs w : List Int) (hh : HighR hs) (hl : w.length = hs.length) (hw : OddR w) (h1000 : hs.length ≤ 1000) : ∀ (q i m : Nat), i + q = hs.length → q < m →
    l_sum_Build_o_2 N m (((hs.length : Nat) : Int), nextOf hs, ((hs.length : Nat) : Int), (i : Int), (List.range (w.length + 1)).map (pre w), ((List.range hs.length).map fun j => if j < i then rowS hs w j else []), w) = some (sumsOf hs w, w)
  | q, i, 0, h1, h2 => by omega
  | 0, i, m + 1, h1, h2 => by
    rw [l_sum_Build_o_2_s, cd, if_neg (by omega)]
    have : ((List.range hs.length).map fun j => if j < i then rowS hs w j else []) = sumsOf hs w := List.map_congr_left fun j hj => by
      have := List.mem_range.1 hj
      rw [if_pos (by omega)]
    rw [this]
  | q + 1, i, m + 1, h1, h2 => by
    have hb := high_at hh (j := i) (by omega)
    obtain ⟨H, hH⟩ : ∃ H : Nat, hAt hs i = (H : Int) := ⟨_, (Int.toNat_of_nonneg (by omega)).symm⟩
    have hk : (nextOf hs)[i]? = some (linksOf hs i) := map_get _ _ _ (by omega)
    have gs := map_get hs.length i (fun j => if j < i then rowS hs w j else []) (by omega)
    simp only [Nat.lt_irrefl, if_false] at gs
    have e3 := sb3_o N hN hs w (nextOf hs) ((List.range hs.length).map fun j => if j < i then rowS hs w j else []) ((hs.length : Nat) : Int) (i : Int) i H hl hw h1000 (by omega) (by simp) hH (by omega) H 0 N (by omega) (by have := Fu_eq; omega)
    rw [show (List.range 0).map (fun h => segS w i (dist hs i h)) = [] from rfl] at e3
    have hlen : (((linksOf hs i).length : Nat) : Int) = (H : Int) := by simp [linksOf, hH]
    have hrow : ((List.range H).map fun h => segS w i (dist hs i h)) = rowS hs w i := by unfold rowS; rw [hH]; rfl
    have hne : isNilL (rowS hs w i) = false := by
      cases hr : rowS hs w i with
      | nil => have := rowS_len hs w i; rw [hr] at this; simp at this; omega
      | cons => rfl
    rw [l_sum_Build_o_2_s, cd, if_pos (by omega), nth_of hk, ob, nth_of gs, ob]
    rw [show isNilL ([] : List Int) = true from rfl, cond_true, hlen, show ((0 : Int) = ((0 : Nat) : Int)) from rfl, e3, ob]
    simp only [nth_of gs, ob, hrow, hne, cond_false]
    rw [w64n (by omega), Int.toNat_natCast, set_map]
    have : ((List.range hs.length).map fun j => if j = i then rowS hs w i else if j < i then rowS hs w j else []) = (List.range hs.length).map fun j => if j < i + 1 then rowS hs w j else [] := List.map_congr_left fun j hj => by
      by_cases e : j = i
      · subst e; rw [if_pos rfl, if_pos (by omega)]
      · rw [if_neg e]
        by_cases e2 : j < i
        · rw [if_pos e2, if_pos (by omega)]
        · rw [if_neg e2, if_neg (by omega)]
    rw [this]
    exact sb2_o N hN hs w hh hl hw h1000 q (i + 1) m (by omega) (by omega)
theorem sbuild_o_eq (N : Nat) (hN : Fu + 8 ≤ N) (t t2 : List Int) (t3 : List (List Int)) (w : List Int) (h1 : t.length ≤ 9223372036854775807) (h2 : t2.length ≤ 9223372036854775807) (h3 : w.length ≤ 9223372036854775807) : m_sum_Build_o N (t, t2, t3, w) = some ((sumOf t t2 t3 w).1, (sumOf t t2 t3 w).2, w) := by
  obtain ⟨N, rfl⟩ : ∃ n, N = n + 1 := ⟨N - 1, by omega⟩
  unfold sumOf
  rw [m_sum_Build_o_eq, cdn]
  by_cases c1 : w.length ≠ t.length
  · rw [if_neg (by omega), if_neg (fun h => c1 h.1)]
  have c1 := Decidable.not_not.1 c1
  rw [if_pos (by omega), tright_eq N (by omega) t t2 t3 h1 h2, ob]
  by_cases c2 : ¬ TowerR t t2 t3
  · rw [if_neg (fun h => c2 h.2.1)]
    simp [c2]
  have c2 := Decidable.not_not.1 c2
  rw [soddf_eq N (by omega) w h3, ob]
  by_cases c3 : ¬ OddR w
  · rw [if_neg (fun h => c3 h.2.2)]
    simp [c2, c3]
  have c3 := Decidable.not_not.1 c3
  obtain ⟨l1, l2, l3⟩ := towerR_len c2
  rw [if_pos ⟨c1, c2, c3⟩]
  simp only [c2, c3, decide_true, Bool.not_true, cond_false]
  have e1 := sb1_o N ((t.length : Nat) : Int) w t t2 t3 c3 (by omega) w.length 0 N (by omega) (by have := Fu_eq; omega)
  have e0 : ((List.range (w.length + 1)).map fun j => if j ≤ 0 then pre w j else 0) = List.replicate (t.length + 1) 0 := by
    rw [c1]
    refine List.ext_getElem? fun j => ?_
    rw [List.getElem?_map, List.getElem?_replicate]
    by_cases hj : j < t.length + 1
    · rw [List.getElem?_range hj, if_pos hj]
      cases j with
      | zero => rfl
      | succ j => simp
    · rw [List.getElem?_eq_none (by simp; omega), if_neg hj]; rfl
  rw [e0] at e1
  have e2 := sb2_o N (by omega) t2 w c2.1.2.2.2 (by omega) c3 (by omega) t2.length 0 N (by omega) (by have := Fu_eq; omega)
  have e5 : ((List.range t2.length).map fun j => if j < 0 then rowS t2 w j else []) = List.replicate t2.length [] := by
    refine List.ext_getElem? fun j => ?_
    rw [List.getElem?_map, List.getElem?_replicate]
    by_cases hj : j < t2.length
    · rw [List.getElem?_range hj, if_pos hj]; simp
    · rw [List.getElem?_eq_none (by simp; omega), if_neg hj]; rfl
  rw [e5, ← c2.2] at e2
  have hnl : t3.length = t2.length := by rw [c2.2]; simp [nextOf]
  rw [show (((0 : Nat) : Int) = 0) from rfl] at e1 e2
  rw [w64 (by omega) (by omega), mak_of (by omega) (by omega) (by omega), ob, show ((((t.length : Nat) : Int) + 1).toNat) = t.length + 1 by omega, e1, ob]
  simp only
  rw [mak_of (by omega) (by omega) (by omega), ob, Int.toNat_natCast, hnl, ← l2, e2, ob]
end Go.Proofs.Ytiblkkkgajklfaa
