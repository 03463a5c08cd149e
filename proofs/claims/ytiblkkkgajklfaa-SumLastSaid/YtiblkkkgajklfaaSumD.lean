/- Weights of sums, both (printed by wip/plain/gensumd.py). -/
import Derived.Test.YtiblkkkgajklfaaSumC
set_option linter.unusedVariables false
set_option linter.unusedSimpArgs false
namespace Go.Proofs.Ytiblkkkgajklfaa
open Go Go.RowKit

def firstsOf (s : List (List Int)) : List Int := s.map fun l => hAt l 0
def NeR (s : List (List Int)) : Prop := ∀ l ∈ s, l ≠ []
instance (s : List (List Int)) : Decidable (NeR s) := by unfold NeR; exact inferInstance
def SumsR (t t2 : List Int) (t3 s : List (List Int)) : Prop := NeR s ∧ SumR t t2 t3 (firstsOf s) ∧ sumsOf t2 (firstsOf s) = s
instance (t t2 : List Int) (t3 s : List (List Int)) : Decidable (SumsR t t2 t3 s) := by unfold SumsR; exact inferInstance
def weightsOf (t t2 : List Int) (t3 s : List (List Int)) : List Int := if SumsR t t2 t3 s then firstsOf s else []
theorem sumsR_len {t t2 : List Int} {t3 s : List (List Int)} (h : SumsR t t2 t3 s) : (firstsOf s).length = t2.length ∧ t2.length = t.length ∧ 0 < t2.length ∧ t2.length ≤ 1000 := by
  obtain ⟨_, ⟨h1, h2, _⟩, _⟩ := h
  obtain ⟨l1, l2, l3⟩ := towerR_len h2
  exact ⟨by omega, l2, l3, by omega⟩
theorem firsts_sums {t t2 : List Int} {t3 : List (List Int)} {w : List Int} (h : SumR t t2 t3 w) : firstsOf (sumsOf t2 w) = w := by
  obtain ⟨h1, h2, h3⟩ := h
  obtain ⟨l1, l2, l3⟩ := towerR_len h2
  refine List.ext_getElem? fun j => ?_
  unfold firstsOf sumsOf
  rw [List.map_map]
  by_cases hj : j < t2.length
  · rw [map_get _ _ _ hj, hAt_get (show j < w.length by omega)]
    simp only [Function.comp]
    rw [hAt_of (rowS_first h2.1.2.2.2 (by omega) hj)]
  · rw [List.getElem?_eq_none (by simp; omega), List.getElem?_eq_none (by omega)]
theorem sums_ne {t t2 : List Int} {t3 : List (List Int)} {w : List Int} (h : SumR t t2 t3 w) : NeR (sumsOf t2 w) := by
  intro l hl
  obtain ⟨i, hi, rfl⟩ := List.mem_map.1 hl
  have := high_at h.2.1.1.2.2.2 (List.mem_range.1 hi)
  have h2 := rowS_len t2 w i
  intro e
  rw [e] at h2
  simp at h2; omega
theorem sumsR_of {t t2 : List Int} {t3 : List (List Int)} {w : List Int} (h : SumR t t2 t3 w) : SumsR t t2 t3 (sumsOf t2 w) := by
  refine ⟨sums_ne h, ?_, ?_⟩
  · rw [firsts_sums h]; exact h
  · rw [firsts_sums h]
theorem weights_sums {t t2 : List Int} {t3 : List (List Int)} {w : List Int} (h : SumR t t2 t3 w) : weightsOf t t2 t3 (sumsOf t2 w) = w := by
  rw [weightsOf, if_pos (sumsR_of h), firsts_sums h]
theorem rows_len {hs w : List Int} (hh : HighR hs) : ∀ x ∈ sumsOf hs w, x.length ≤ 9223372036854775807 := by
  intro l hl
  obtain ⟨i, hi, rfl⟩ := List.mem_map.1 hl
  have := high_at hh (List.mem_range.1 hi)
  rw [rowS_len]; omega
theorem sumOf_lens (t t2 : List Int) (t3 : List (List Int)) (w : List Int) : (sumOf t t2 t3 w).2.length ≤ 1000 ∧ ∀ x ∈ (sumOf t t2 t3 w).2, x.length ≤ 8 := by
  unfold sumOf
  split
  · rename_i h
    obtain ⟨l1, l2, l3⟩ := towerR_len h.2.1
    refine ⟨by simp [sumsOf]; omega, fun x hx => ?_⟩
    obtain ⟨i, hi, rfl⟩ := List.mem_map.1 hx
    have := high_at h.2.1.1.2.2.2 (List.mem_range.1 hi)
    rw [rowS_len]; omega
  · exact ⟨by simp, fun x hx => by cases hx⟩
theorem ne_get {l : List Int} (h : l ≠ []) : l[0]? = some (hAt l 0) := by
  cases l with
  | nil => exact absurd rfl h
  | cons => rfl

theorem weights1 (N : Nat) (sums : List (List Int)) (t t2 : List Int) (t3 : List (List Int)) (hm : sums.length ≤ 100000) : ∀ (k i m : Nat), i + k = sums.length → k < m →
    l_sum_Weights_1 N m (sums, sums, ((sums.length : Nat) : Int), (i : Int), t, t2, t3, firstsOf (sums.take i)) = some (if NeR (sums.drop i) then .inl (sums, t, t2, t3, firstsOf sums) else .inr ())
  | k, i, 0, h1, h2 => by omega
  | 0, i, m + 1, h1, h2 => by
    rw [l_sum_Weights_1_s, cd, if_neg (by omega), List.drop_eq_nil_of_le (by omega), if_pos (by intro t h; cases h), List.take_of_length_le (by omega)]
  | k + 1, i, m + 1, h1, h2 => by
    obtain ⟨x, hx⟩ := get_at (xs := sums) (i := i) (by omega)
    rw [l_sum_Weights_1_s, cd, if_pos (by omega), nth_of hx, ob, cd, drop_at hx]
    by_cases c : x = []
    · subst c
      rw [if_pos (show ((([] : List Int).length : Nat) : Int) = 0 from rfl), if_neg (fun e => e [] (by simp) rfl)]
    have c' : ¬ x.length = 0 := fun e => c (List.length_eq_zero_iff.1 e)
    have hap : appI 8 (firstsOf (sums.take i)) [hAt x 0] = some (firstsOf (sums.take (i + 1))) := by
      rw [app_of (by omega) (by simp [firstsOf]; omega), take_at hx]
      simp [firstsOf]
    rw [if_neg (by omega), show ((0 : Int) = ((0 : Nat) : Int)) from rfl, nth_of (ne_get c), ob, hap, ob, w64n (by omega), weights1 N sums t t2 t3 hm k (i + 1) m (by omega) (by omega)]
    have : NeR (x :: sums.drop (i + 1)) ↔ NeR (sums.drop (i + 1)) := ⟨fun e t ht => e t (by simp [ht]), fun e t ht => by
      rcases List.mem_cons.1 ht with rfl | ht
      · exact c
      · exact e t ht⟩
    by_cases h5 : NeR (sums.drop (i + 1))
    · rw [if_pos h5, if_pos (this.2 h5)]
    · rw [if_neg h5, if_neg (fun e => h5 (this.1 e))]
theorem weights_eq (N : Nat) (hN : Fu + 9 ≤ N) (t t2 : List Int) (t3 s : List (List Int)) (h1 : t.length ≤ 9223372036854775807) (h2 : t2.length ≤ 9223372036854775807) (h3 : s.length ≤ 100000) : m_sum_Weights N (t, t2, t3, s) = some (weightsOf t t2 t3 s) := by
  obtain ⟨N, rfl⟩ : ∃ n, N = n + 1 := ⟨N - 1, by omega⟩
  have e1 := weights1 N s t t2 t3 h3 s.length 0 N (by omega) (by have := Fu_eq; omega)
  rw [List.drop_zero, show firstsOf (s.take 0) = [] from rfl, show (((0 : Nat) : Int) = 0) from rfl] at e1
  unfold weightsOf
  rw [m_sum_Weights_eq, e1, ob]
  by_cases c1 : ¬ NeR s
  · rw [if_neg c1, if_neg (fun h => c1 h.1)]
  have c1 := Decidable.not_not.1 c1
  have hl : (firstsOf s).length ≤ 9223372036854775807 := by simp [firstsOf]; omega
  rw [if_pos c1]
  simp only
  rw [sbuild_o_eq N (by omega) t t2 t3 _ h1 h2 hl, ob]
  have hlens := sumOf_lens t t2 t3 (firstsOf s)
  unfold sumOf at *
  by_cases c2 : ¬ SumR t t2 t3 (firstsOf s)
  · rw [if_neg c2, if_neg (fun h => c2 h.2.1)]
    simp
  have c2 := Decidable.not_not.1 c2
  rw [if_pos c2] at hlens ⊢
  simp only [decide_true, Bool.not_true, cond_false]
  rw [equals_eq N (by omega) (sumsOf t2 (firstsOf s)) s (Nat.le_trans hlens.1 (by decide)) (fun x hx => Nat.le_trans (hlens.2 x hx) (by decide)), ob]
  by_cases c3 : sumsOf t2 (firstsOf s) = s
  · rw [if_pos ⟨c1, c2, c3⟩]; simp [c3]
  · rw [if_neg (fun h => c3 h.2.2)]; simp [c3]

theorem weights1r (N : Nat) (sums : List (List Int)) (t t2 : List Int) (t3 : List (List Int)) (hm : sums.length ≤ 100000) : ∀ (k i m : Nat), i + k = sums.length → k < m →
    l_ref16_Weights_1 N m (sums, (i : Int), t, t2, t3, firstsOf (sums.take i)) = some (if NeR (sums.drop i) then .inl (sums, t, t2, t3, firstsOf sums) else .inr ())
  | k, i, 0, h1, h2 => by omega
  | 0, i, m + 1, h1, h2 => by
    rw [l_ref16_Weights_1_s, cd, if_neg (by omega), List.drop_eq_nil_of_le (by omega), if_pos (by intro t h; cases h), List.take_of_length_le (by omega)]
  | k + 1, i, m + 1, h1, h2 => by
    obtain ⟨x, hx⟩ := get_at (xs := sums) (i := i) (by omega)
    rw [l_ref16_Weights_1_s, cd, if_pos (by omega), nth_of hx, ob, cd, drop_at hx]
    by_cases c : x = []
    · subst c
      rw [if_pos (show ((([] : List Int).length : Nat) : Int) = 0 from rfl), if_neg (fun e => e [] (by simp) rfl)]
    have c' : ¬ x.length = 0 := fun e => c (List.length_eq_zero_iff.1 e)
    have hap : appI 8 (firstsOf (sums.take i)) [hAt x 0] = some (firstsOf (sums.take (i + 1))) := by
      rw [app_of (by omega) (by simp [firstsOf]; omega), take_at hx]
      simp [firstsOf]
    rw [if_neg (by omega), ob, show ((0 : Int) = ((0 : Nat) : Int)) from rfl, nth_of (ne_get c), ob, hap, ob, w64n (by omega), weights1r N sums t t2 t3 hm k (i + 1) m (by omega) (by omega)]
    have : NeR (x :: sums.drop (i + 1)) ↔ NeR (sums.drop (i + 1)) := ⟨fun e t ht => e t (by simp [ht]), fun e t ht => by
      rcases List.mem_cons.1 ht with rfl | ht
      · exact c
      · exact e t ht⟩
    by_cases h5 : NeR (sums.drop (i + 1))
    · rw [if_pos h5, if_pos (this.2 h5)]
    · rw [if_neg h5, if_neg (fun e => h5 (this.1 e))]
theorem rweights_eq (N : Nat) (hN : Fu + 9 ≤ N) (t t2 : List Int) (t3 s : List (List Int)) (h1 : t.length ≤ 9223372036854775807) (h2 : t2.length ≤ 9223372036854775807) (h3 : s.length ≤ 100000) : m_ref16_Weights N (t, t2, t3, s) = some (weightsOf t t2 t3 s) := by
  obtain ⟨N, rfl⟩ : ∃ n, N = n + 1 := ⟨N - 1, by omega⟩
  have e1 := weights1r N s t t2 t3 h3 s.length 0 N (by omega) (by have := Fu_eq; omega)
  rw [List.drop_zero, show firstsOf (s.take 0) = [] from rfl, show (((0 : Nat) : Int) = 0) from rfl] at e1
  unfold weightsOf
  rw [m_ref16_Weights_eq, e1, ob]
  by_cases c1 : ¬ NeR s
  · rw [if_neg c1, if_neg (fun h => c1 h.1)]
  have c1 := Decidable.not_not.1 c1
  have hl : (firstsOf s).length ≤ 9223372036854775807 := by simp [firstsOf]; omega
  rw [if_pos c1]
  simp only
  rw [rbuilds_o N (by omega) t t2 t3 _ h1 h2 hl, ob]
  have hlens := sumOf_lens t t2 t3 (firstsOf s)
  unfold sumOf at *
  by_cases c2 : ¬ SumR t t2 t3 (firstsOf s)
  · rw [if_neg c2, if_neg (fun h => c2 h.2.1)]
    simp
  have c2 := Decidable.not_not.1 c2
  rw [if_pos c2] at hlens ⊢
  simp only [decide_true, Bool.not_true, cond_false]
  rw [lists_eq N (by omega) (sumsOf t2 (firstsOf s)) s (Nat.le_trans hlens.1 (by decide)) (fun x hx => Nat.le_trans (hlens.2 x hx) (by decide)), ob]
  by_cases c3 : sumsOf t2 (firstsOf s) = s
  · rw [if_pos ⟨c1, c2, c3⟩]; simp [c3]
  · rw [if_neg (fun h => c3 h.2.2)]; simp [c3]
end Go.Proofs.Ytiblkkkgajklfaa
