/- Sums, built: the document's (printed by wip/plain/gensumc.py: twice alike, for weights that are read, and for weights that are handed over). -/
import Derived.Test.YtiblkkkgajklfaaSumB
set_option linter.unusedVariables false
set_option linter.unusedSimpArgs false
namespace Go.Proofs.Ytiblkkkgajklfaa
open Go Go.RowKit

theorem rmay_eq (N : Nat) (hN : Fu ≤ N) (x : Int) : m_ref16_may N x = some (decide (-1073741824 ≤ x ∧ x ≤ 1073741824)) := by
  obtain ⟨N, rfl⟩ : ∃ n, N = n + 1 := ⟨N - 1, by have := Fu_eq; omega⟩
  rw [m_ref16_may_eq, cd]
  by_cases h1 : -1073741824 ≤ x
  · rw [if_pos h1]; simp [h1]
  · rw [if_neg h1]; simp [h1]
theorem mod_ne {n i d e : Nat} (hi : i < n) (h1 : 1 ≤ d) (h2 : d < e) (h3 : e ≤ n) : (i + d) % n ≠ (i + e) % n := by
  by_cases a : i + d < n
  · rw [Nat.mod_eq_of_lt a]
    by_cases b : i + e < n
    · rw [Nat.mod_eq_of_lt b]; omega
    · rw [Nat.mod_eq_sub_mod (by omega), Nat.mod_eq_of_lt (by omega)]; omega
  · rw [Nat.mod_eq_sub_mod (by omega), Nat.mod_eq_of_lt (by omega), Nat.mod_eq_sub_mod (show n ≤ i + e by omega), Nat.mod_eq_of_lt (by omega)]; omega

theorem rb1 (N : Nat) (hN : Fu ≤ N) (n0 : Nat) (w t t2 : List Int) (t3 : List (List Int)) (hn : n0 = w.length) (h1000 : w.length ≤ 1000) : ∀ (k i m : Nat), i + k = w.length → k < m →
    l_ref16_Build_1 N m (w, (n0 : Int), (i : Int), t, t2, t3) = some (if OddR (w.drop i) then .inl (w, (n0 : Int), t, t2, t3) else .inr 1)
  | k, i, 0, h1, h2 => by omega
  | 0, i, m + 1, h1, h2 => by
    rw [l_ref16_Build_1_s, cd, if_neg (by omega), List.drop_eq_nil_of_le (by omega), if_pos (by intro t h; cases h)]
  | k + 1, i, m + 1, h1, h2 => by
    obtain ⟨x, hx⟩ := get_at (xs := w) (i := i) (by omega)
    rw [l_ref16_Build_1_s, cd, if_pos (by omega), nth_of hx, ob, rmay_eq N hN, ob, cdn, drop_at hx]
    by_cases c1 : -1073741824 ≤ x ∧ x ≤ 1073741824
    · rw [if_pos c1, w64n (by omega), rb1 N hN n0 w t t2 t3 hn h1000 k (i + 1) m (by omega) (by omega)]
      have : OddR (x :: w.drop (i + 1)) ↔ OddR (w.drop (i + 1)) := ⟨fun e t ht => e t (by simp [ht]), fun e t ht => by
        rcases List.mem_cons.1 ht with rfl | ht
        · exact c1
        · exact e t ht⟩
      by_cases h5 : OddR (w.drop (i + 1))
      · rw [if_pos h5, if_pos (this.2 h5)]
      · rw [if_neg h5, if_neg (fun e => h5 (this.1 e))]
    · rw [if_neg c1, if_neg (fun e => c1 (e x (by simp)))]
theorem rb4 (N : Nat) (hs w t t2 l : List Int) (out : List (List Int)) (i h : Nat) (hl : w.length = hs.length) (hw : OddR w) (h1000 : hs.length ≤ 1000) (hi : i < hs.length) (hh : (h : Int) < hAt hs i) : ∀ (q d m : Nat), d + q = dist hs i h → 1 ≤ d → q < m →
    l_ref16_Build_4 N m (w, ((hs.length : Nat) : Int), (i : Int), (h : Int), segS w i d, (((i + d) % hs.length : Nat) : Int), t, t2, nextOf hs, out, l) = some (w, ((hs.length : Nat) : Int), (i : Int), (h : Int), segS w i (dist hs i h), t, t2, nextOf hs, out, l)
  | q, d, 0, h1, h2, h3 => by omega
  | q, d, m + 1, h1, h2, h3 => by
    obtain ⟨_, d1, d2, _⟩ := dist_ok hi hh
    have g1 : (nextOf hs)[i]? = some (linksOf hs i) := map_get _ _ _ hi
    have g2 : (linksOf hs i)[h]? = some (((i + dist hs i h) % hs.length : Nat) : Int) := map_get _ _ _ (by omega)
    have hml := Nat.mod_lt (i + d) (show 0 < hs.length by omega)
    rw [l_ref16_Build_4_s, nth_of g1, ob, nth_of g2, ob, cdn]
    cases q with
    | zero =>
      have : d = dist hs i h := by omega
      subst this
      rw [if_pos rfl]
    | succ q =>
      have hne := mod_ne hi h2 (show d < dist hs i h by omega) (by omega)
      have hx := hAt_get (hs := w) (j := (i + d) % hs.length) (by omega)
      have b1 := seg_le hw i d
      have b2 := odd_at hw ((i + d) % hs.length)
      have e1 : ((i + d) % hs.length + 1) % hs.length = (i + (d + 1)) % hs.length := by rw [Nat.mod_add_mod]; rfl
      have e2 : segS w i d + hAt w ((i + d) % hs.length) = segS w i (d + 1) := by rw [segS, hl]
      rw [if_neg (by omega), nth_of hx, ob, w64n (by omega), rem_of (by omega), tmod_nat, ob, w64 (x := segS w i d + _) (by omega) (by omega), e1, e2]
      exact rb4 N hs w t t2 l out i h hl hw h1000 hi hh q (d + 1) m (by omega) (by omega) (by omega)
theorem rb3 (N : Nat) (hN : Fu + 1 ≤ N) (hs w t t2 : List Int) (out : List (List Int)) (i H : Nat) (hl : w.length = hs.length) (hw : OddR w) (h1000 : hs.length ≤ 1000) (hi : i < hs.length) (hH : hAt hs i = (H : Int)) (h8 : H ≤ 8) : ∀ (q h m : Nat), h + q = H → q < m →
    l_ref16_Build_3 N m (w, ((hs.length : Nat) : Int), (i : Int), (h : Int), t, t2, nextOf hs, out, (List.range h).map fun h => segS w i (dist hs i h)) = some (w, ((hs.length : Nat) : Int), (i : Int), t, t2, nextOf hs, out, (List.range H).map fun h => segS w i (dist hs i h))
  | q, h, 0, h1, h2 => by omega
  | 0, h, m + 1, h1, h2 => by
    have g1 : (nextOf hs)[i]? = some (linksOf hs i) := map_get _ _ _ hi
    have hlen : (((linksOf hs i).length : Nat) : Int) = (H : Int) := by simp [linksOf, hH]
    rw [l_ref16_Build_3_s, nth_of g1, ob, cd, hlen, if_neg (by omega)]
    have : h = H := by omega
    rw [this]
  | q + 1, h, m + 1, h1, h2 => by
    have g1 : (nextOf hs)[i]? = some (linksOf hs i) := map_get _ _ _ hi
    have hlen : (((linksOf hs i).length : Nat) : Int) = (H : Int) := by simp [linksOf, hH]
    have hx := hAt_get (hs := w) (j := i) (by omega)
    have hh : (h : Int) < hAt hs i := by omega
    obtain ⟨_, d1, d2, _⟩ := dist_ok hi hh
    have e1 : hAt w i = segS w i 1 := by
      simp only [segS, Nat.add_zero, Int.zero_add]
      rw [Nat.mod_eq_of_lt (by omega)]
    have hap : appI 8 ((List.range h).map fun h => segS w i (dist hs i h)) [segS w i (dist hs i h)] = some ((List.range (h + 1)).map fun h => segS w i (dist hs i h)) := by
      rw [app_of (by omega) (by simp; omega), List.range_succ, List.map_append]; rfl
    have e4 := rb4 N hs w t t2 ((List.range h).map fun h => segS w i (dist hs i h)) out i h hl hw h1000 hi hh (dist hs i h - 1) 1 N (by omega) (by omega) (by have := Fu_eq; omega)
    rw [l_ref16_Build_3_s, nth_of g1, ob, cd, hlen, if_pos (by omega), nth_of hx, ob, w64n (by omega), rem_of (by omega), tmod_nat, ob, e1, e4, ob]
    simp only [hap, ob]
    rw [w64n (by omega)]
    exact rb3 N hN hs w t t2 out i H hl hw h1000 hi hH h8 q (h + 1) m (by omega) (by omega)
theorem rb2 (N : Nat) (hN : Fu + 1 ≤ N) (hs w t t2 : List Int) (hh : HighR hs) (hl : w.length = hs.length) (hw : OddR w) (h1000 : hs.length ≤ 1000) : ∀ (q i m : Nat), i + q = hs.length → q < m →
    l_ref16_Build_2 N m (w, ((hs.length : Nat) : Int), (i : Int), t, t2, nextOf hs, (List.range i).map (rowS hs w)) = some (sumsOf hs w)
  | q, i, 0, h1, h2 => by omega
  | 0, i, m + 1, h1, h2 => by
    rw [l_ref16_Build_2_s, cd, if_neg (by omega)]
    have : i = hs.length := by omega
    rw [this]; rfl
  | q + 1, i, m + 1, h1, h2 => by
    have hb := high_at hh (j := i) (by omega)
    obtain ⟨H, hH⟩ : ∃ H : Nat, hAt hs i = (H : Int) := ⟨_, (Int.toNat_of_nonneg (by omega)).symm⟩
    have e3 := rb3 N hN hs w t t2 ((List.range i).map (rowS hs w)) i H hl hw h1000 (by omega) hH (by omega) H 0 N (by omega) (by have := Fu_eq; omega)
    rw [show (List.range 0).map (fun h => segS w i (dist hs i h)) = [] from rfl] at e3
    have hap : appI 24 ((List.range i).map (rowS hs w)) [(List.range H).map fun h => segS w i (dist hs i h)] = some ((List.range (i + 1)).map (rowS hs w)) := by
      rw [app_of (by omega) (by simp; omega), List.range_succ, List.map_append]
      simp only [List.map_cons, List.map_nil, rowS, hH, Int.toNat_natCast]
    rw [l_ref16_Build_2_s, cd, if_pos (by omega), show ((0 : Int) = ((0 : Nat) : Int)) from rfl, e3, ob]
    simp only [hap, ob]
    rw [w64n (by omega)]
    exact rb2 N hN hs w t t2 hh hl hw h1000 q (i + 1) m (by omega) (by omega)
theorem rbuilds (N : Nat) (hN : Fu + 8 ≤ N) (t t2 : List Int) (t3 : List (List Int)) (w : List Int) (h1 : t.length ≤ 9223372036854775807) (h2 : t2.length ≤ 9223372036854775807) (h3 : w.length ≤ 9223372036854775807) : m_ref16_Build N (t, t2, t3, w) = some ((sumOf t t2 t3 w).1, (sumOf t t2 t3 w).2) := by
  obtain ⟨N, rfl⟩ : ∃ n, N = n + 1 := ⟨N - 1, by omega⟩
  unfold sumOf
  rw [m_ref16_Build_eq, rright_eq N (by omega) t t2 t3 h1 h2, ob]
  by_cases c2 : ¬ TowerR t t2 t3
  · rw [if_neg (fun h => c2 h.2.1)]
    simp [c2]
  have c2 := Decidable.not_not.1 c2
  simp only [c2, decide_true, Bool.not_true, cond_false]
  rw [cdn]
  by_cases c1 : w.length ≠ t.length
  · rw [if_neg (by omega), if_neg (fun h => c1 h.1)]
  have c1 := Decidable.not_not.1 c1
  obtain ⟨l1, l2, l3⟩ := towerR_len c2
  have e1 := rb1 N (by omega) t.length w t t2 t3 c1.symm (by omega) w.length 0 N (by omega) (by have := Fu_eq; omega)
  rw [List.drop_zero, show (((0 : Nat) : Int) = 0) from rfl] at e1
  rw [if_pos (by omega), e1, ob]
  by_cases c3 : ¬ OddR w
  · rw [if_neg c3, if_neg (fun h => c3 h.2.2)]
  have c3 := Decidable.not_not.1 c3
  rw [if_pos c3, if_pos ⟨c1, c2, c3⟩]
  have e2 := rb2 N (by omega) t2 w t t2 c2.1.2.2.2 (by omega) c3 (by omega) t2.length 0 N (by omega) (by have := Fu_eq; omega)
  rw [show (List.range 0).map (rowS t2 w) = [] from rfl, show (((0 : Nat) : Int) = 0) from rfl, ← c2.2, l2] at e2
  simp only [e2, ob]

theorem rb1_o (N : Nat) (hN : Fu ≤ N) (n0 : Nat) (w t t2 : List Int) (t3 : List (List Int)) (hn : n0 = w.length) (h1000 : w.length ≤ 1000) : ∀ (k i m : Nat), i + k = w.length → k < m →
    l_ref16_Build_o_1 N m ((n0 : Int), (i : Int), w, t, t2, t3) = some (if OddR (w.drop i) then .inl ((n0 : Int), w, t, t2, t3) else .inr (1, w))
  | k, i, 0, h1, h2 => by omega
  | 0, i, m + 1, h1, h2 => by
    rw [l_ref16_Build_o_1_s, cd, if_neg (by omega), List.drop_eq_nil_of_le (by omega), if_pos (by intro t h; cases h)]
  | k + 1, i, m + 1, h1, h2 => by
    obtain ⟨x, hx⟩ := get_at (xs := w) (i := i) (by omega)
    rw [l_ref16_Build_o_1_s, cd, if_pos (by omega), nth_of hx, ob, ob, rmay_eq N hN, ob, cdn, drop_at hx]
    by_cases c1 : -1073741824 ≤ x ∧ x ≤ 1073741824
    · rw [if_pos c1, w64n (by omega), rb1_o N hN n0 w t t2 t3 hn h1000 k (i + 1) m (by omega) (by omega)]
      have : OddR (x :: w.drop (i + 1)) ↔ OddR (w.drop (i + 1)) := ⟨fun e t ht => e t (by simp [ht]), fun e t ht => by
        rcases List.mem_cons.1 ht with rfl | ht
        · exact c1
        · exact e t ht⟩
      by_cases h5 : OddR (w.drop (i + 1))
      · rw [if_pos h5, if_pos (this.2 h5)]
      · rw [if_neg h5, if_neg (fun e => h5 (this.1 e))]
    · rw [if_neg c1, if_neg (fun e => c1 (e x (by simp)))]
theorem rb4_o (N : Nat) (hs w t t2 l : List Int) (out : List (List Int)) (i h : Nat) (hl : w.length = hs.length) (hw : OddR w) (h1000 : hs.length ≤ 1000) (hi : i < hs.length) (hh : (h : Int) < hAt hs i) : ∀ (q d m : Nat), d + q = dist hs i h → 1 ≤ d → q < m →
    l_ref16_Build_o_4 N m (((hs.length : Nat) : Int), (i : Int), (h : Int), segS w i d, (((i + d) % hs.length : Nat) : Int), w, t, t2, nextOf hs, out, l) = some (((hs.length : Nat) : Int), (i : Int), (h : Int), segS w i (dist hs i h), w, t, t2, nextOf hs, out, l)
  | q, d, 0, h1, h2, h3 => by omega
  | q, d, m + 1, h1, h2, h3 => by
    obtain ⟨_, d1, d2, _⟩ := dist_ok hi hh
    have g1 : (nextOf hs)[i]? = some (linksOf hs i) := map_get _ _ _ hi
    have g2 : (linksOf hs i)[h]? = some (((i + dist hs i h) % hs.length : Nat) : Int) := map_get _ _ _ (by omega)
    have hml := Nat.mod_lt (i + d) (show 0 < hs.length by omega)
    rw [l_ref16_Build_o_4_s, nth_of g1, ob, nth_of g2, ob, cdn]
    cases q with
    | zero =>
      have : d = dist hs i h := by omega
      subst this
      rw [if_pos rfl]
    | succ q =>
      have hne := mod_ne hi h2 (show d < dist hs i h by omega) (by omega)
      have hx := hAt_get (hs := w) (j := (i + d) % hs.length) (by omega)
      have b1 := seg_le hw i d
      have b2 := odd_at hw ((i + d) % hs.length)
      have e1 : ((i + d) % hs.length + 1) % hs.length = (i + (d + 1)) % hs.length := by rw [Nat.mod_add_mod]; rfl
      have e2 : segS w i d + hAt w ((i + d) % hs.length) = segS w i (d + 1) := by rw [segS, hl]
      rw [if_neg (by omega), nth_of hx, ob, ob, w64n (by omega), rem_of (by omega), tmod_nat, ob, w64 (x := segS w i d + _) (by omega) (by omega), e1, e2]
      exact rb4_o N hs w t t2 l out i h hl hw h1000 hi hh q (d + 1) m (by omega) (by omega) (by omega)
theorem rb3_o (N : Nat) (hN : Fu + 1 ≤ N) (hs w t t2 : List Int) (out : List (List Int)) (i H : Nat) (hl : w.length = hs.length) (hw : OddR w) (h1000 : hs.length ≤ 1000) (hi : i < hs.length) (hH : hAt hs i = (H : Int)) (h8 : H ≤ 8) : ∀ (q h m : Nat), h + q = H → q < m →
    l_ref16_Build_o_3 N m (((hs.length : Nat) : Int), (i : Int), (h : Int), w, t, t2, nextOf hs, out, (List.range h).map fun h => segS w i (dist hs i h)) = some (((hs.length : Nat) : Int), (i : Int), w, t, t2, nextOf hs, out, (List.range H).map fun h => segS w i (dist hs i h))
  | q, h, 0, h1, h2 => by omega
  | 0, h, m + 1, h1, h2 => by
    have g1 : (nextOf hs)[i]? = some (linksOf hs i) := map_get _ _ _ hi
    have hlen : (((linksOf hs i).length : Nat) : Int) = (H : Int) := by simp [linksOf, hH]
    rw [l_ref16_Build_o_3_s, nth_of g1, ob, cd, hlen, if_neg (by omega)]
    have : h = H := by omega
    rw [this]
  | q + 1, h, m + 1, h1, h2 => by
    have g1 : (nextOf hs)[i]? = some (linksOf hs i) := map_get _ _ _ hi
    have hlen : (((linksOf hs i).length : Nat) : Int) = (H : Int) := by simp [linksOf, hH]
    have hx := hAt_get (hs := w) (j := i) (by omega)
    have hh : (h : Int) < hAt hs i := by omega
    obtain ⟨_, d1, d2, _⟩ := dist_ok hi hh
    have e1 : hAt w i = segS w i 1 := by
      simp only [segS, Nat.add_zero, Int.zero_add]
      rw [Nat.mod_eq_of_lt (by omega)]
    have hap : appI 8 ((List.range h).map fun h => segS w i (dist hs i h)) [segS w i (dist hs i h)] = some ((List.range (h + 1)).map fun h => segS w i (dist hs i h)) := by
      rw [app_of (by omega) (by simp; omega), List.range_succ, List.map_append]; rfl
    have e4 := rb4_o N hs w t t2 ((List.range h).map fun h => segS w i (dist hs i h)) out i h hl hw h1000 hi hh (dist hs i h - 1) 1 N (by omega) (by omega) (by have := Fu_eq; omega)
    rw [l_ref16_Build_o_3_s, nth_of g1, ob, cd, hlen, if_pos (by omega), nth_of hx, ob, ob, w64n (by omega), rem_of (by omega), tmod_nat, ob, e1, e4, ob]
    simp only [hap, ob]
    rw [w64n (by omega)]
    exact rb3_o N hN hs w t t2 out i H hl hw h1000 hi hH h8 q (h + 1) m (by omega) (by omega)
theorem rb2_o (N : Nat) (hN : Fu + 1 ≤ N) (hs w t t2 : List Int) (hh : HighR hs) (hl : w.length = hs.length) (hw : OddR w) (h1000 : hs.length ≤ 1000) : ∀ (q i m : Nat), i + q = hs.length → q < m →
    l_ref16_Build_o_2 N m (((hs.length : Nat) : Int), (i : Int), w, t, t2, nextOf hs, (List.range i).map (rowS hs w)) = some (sumsOf hs w, w)
  | q, i, 0, h1, h2 => by omega
  | 0, i, m + 1, h1, h2 => by
    rw [l_ref16_Build_o_2_s, cd, if_neg (by omega)]
    have : i = hs.length := by omega
    rw [this]; rfl
  | q + 1, i, m + 1, h1, h2 => by
    have hb := high_at hh (j := i) (by omega)
    obtain ⟨H, hH⟩ : ∃ H : Nat, hAt hs i = (H : Int) := ⟨_, (Int.toNat_of_nonneg (by omega)).symm⟩
    have e3 := rb3_o N hN hs w t t2 ((List.range i).map (rowS hs w)) i H hl hw h1000 (by omega) hH (by omega) H 0 N (by omega) (by have := Fu_eq; omega)
    rw [show (List.range 0).map (fun h => segS w i (dist hs i h)) = [] from rfl] at e3
    have hap : appI 24 ((List.range i).map (rowS hs w)) [(List.range H).map fun h => segS w i (dist hs i h)] = some ((List.range (i + 1)).map (rowS hs w)) := by
      rw [app_of (by omega) (by simp; omega), List.range_succ, List.map_append]
      simp only [List.map_cons, List.map_nil, rowS, hH, Int.toNat_natCast]
    rw [l_ref16_Build_o_2_s, cd, if_pos (by omega), show ((0 : Int) = ((0 : Nat) : Int)) from rfl, e3, ob]
    simp only [hap, ob]
    rw [w64n (by omega)]
    exact rb2_o N hN hs w t t2 hh hl hw h1000 q (i + 1) m (by omega) (by omega)
theorem rbuilds_o (N : Nat) (hN : Fu + 8 ≤ N) (t t2 : List Int) (t3 : List (List Int)) (w : List Int) (h1 : t.length ≤ 9223372036854775807) (h2 : t2.length ≤ 9223372036854775807) (h3 : w.length ≤ 9223372036854775807) : m_ref16_Build_o N (t, t2, t3, w) = some ((sumOf t t2 t3 w).1, (sumOf t t2 t3 w).2, w) := by
  obtain ⟨N, rfl⟩ : ∃ n, N = n + 1 := ⟨N - 1, by omega⟩
  unfold sumOf
  rw [m_ref16_Build_o_eq, rright_eq N (by omega) t t2 t3 h1 h2, ob]
  by_cases c2 : ¬ TowerR t t2 t3
  · rw [if_neg (fun h => c2 h.2.1)]
    simp [c2]
  have c2 := Decidable.not_not.1 c2
  simp only [c2, decide_true, Bool.not_true, cond_false]
  rw [cdn]
  by_cases c1 : w.length ≠ t.length
  · rw [if_neg (by omega), if_neg (fun h => c1 h.1)]
  have c1 := Decidable.not_not.1 c1
  obtain ⟨l1, l2, l3⟩ := towerR_len c2
  have e1 := rb1_o N (by omega) t.length w t t2 t3 c1.symm (by omega) w.length 0 N (by omega) (by have := Fu_eq; omega)
  rw [List.drop_zero, show (((0 : Nat) : Int) = 0) from rfl] at e1
  rw [if_pos (by omega), e1, ob]
  by_cases c3 : ¬ OddR w
  · rw [if_neg c3, if_neg (fun h => c3 h.2.2)]
  have c3 := Decidable.not_not.1 c3
  rw [if_pos c3, if_pos ⟨c1, c2, c3⟩]
  have e2 := rb2_o N (by omega) t2 w t t2 c2.1.2.2.2 (by omega) c3 (by omega) t2.length 0 N (by omega) (by have := Fu_eq; omega)
  rw [show (List.range 0).map (rowS t2 w) = [] from rfl, show (((0 : Nat) : Int) = 0) from rfl, ← c2.2, l2] at e2
  simp only [e2, ob]
end Go.Proofs.Ytiblkkkgajklfaa
