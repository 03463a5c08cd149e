/- The first of the highest: tower.Head, slices.Max, slices.Index. -/
import Derived.Test.YtiblkkkgajklfaaTowC
set_option linter.unusedVariables false
set_option linter.unusedSimpArgs false
namespace Go.Proofs.Ytiblkkkgajklfaa
open Go Go.RowKit
theorem towerR_len {t t2 : List Int} {t3 : List (List Int)} (h : TowerR t t2 t3) : t.length ≤ 1000 ∧ t2.length = t.length ∧ 0 < t2.length := by
  obtain ⟨⟨h0, h1, h2, _⟩, _⟩ := h
  have := List.length_pos_iff.2 h0
  exact ⟨h2.1, h1, by omega⟩
structure IsHead (hs : List Int) (n b : Nat) : Prop where
  lt : b < n
  le : ∀ i, i < n → hAt hs i ≤ hAt hs b
  fst : ∀ i, i < b → hAt hs i < hAt hs b
theorem IsHead.uniq {hs : List Int} {n b c : Nat} (h : IsHead hs n b) (k : IsHead hs n c) : b = c := by
  rcases Nat.lt_trichotomy b c with e | e | e
  · have := k.fst b e; have := h.le c k.lt; omega
  · exact e
  · have := h.fst c e; have := k.le b h.lt; omega
theorem max_loop (N : Nat) (hs : List Int) (hm : hs.length ≤ 1000) : ∀ (k i m : Nat) (a : Int), i + k = hs.length → k < m → (∀ j, j < i → hAt hs j ≤ a) → (∃ j, j < hs.length ∧ hAt hs j = a) →
    ∃ a', l_slices_Max_Lint_int_1 N m (hs, a, (i : Int)) = some a' ∧ (∀ j, j < hs.length → hAt hs j ≤ a') ∧ ∃ j, j < hs.length ∧ hAt hs j = a'
  | k, i, 0, a, h1, h2, h3, h4 => by omega
  | 0, i, m + 1, a, h1, h2, h3, h4 => by
    rw [l_slices_Max_Lint_int_1_s, cd, if_neg (by omega)]
    exact ⟨a, rfl, fun j hj => h3 j (by omega), h4⟩
  | k + 1, i, m + 1, a, h1, h2, h3, h4 => by
    have hx := hAt_get (hs := hs) (j := i) (by omega)
    rw [l_slices_Max_Lint_int_1_s, cd, if_pos (by omega), nth_of hx, ob, w64n (by omega)]
    refine max_loop N hs hm k (i + 1) m _ (by omega) (by omega) (fun j hj => ?_) ?_
    · by_cases e : j = i
      · subst e; split <;> omega
      · have := h3 j (by omega); split <;> omega
    · split
      · exact ⟨i, by omega, rfl⟩
      · exact h4
theorem tmax_eq (N : Nat) (hN : Fu + 1 ≤ N) (hs : List Int) (hm : hs.length ≤ 1000) (h0 : 0 < hs.length) : ∃ a, m_slices_Max_Lint_int N hs = some a ∧ (∀ j, j < hs.length → hAt hs j ≤ a) ∧ ∃ j, j < hs.length ∧ hAt hs j = a := by
  obtain ⟨N, rfl⟩ : ∃ n, N = n + 1 := ⟨N - 1, by omega⟩
  have hx := hAt_get (hs := hs) (j := 0) h0
  obtain ⟨a, h1, h2⟩ := max_loop N hs hm (hs.length - 1) 1 N (hAt hs 0) (by omega) (by have := Fu_eq; omega) (fun j hj => by
    have : j = 0 := by omega
    subst this; exact Int.le_refl _) ⟨0, h0, rfl⟩
  refine ⟨a, ?_, h2⟩
  rw [m_slices_Max_Lint_int_eq, cd, if_neg (by omega), show ((0 : Int) = ((0 : Nat) : Int)) from rfl, nth_of hx, ob, show ((1 : Int) = ((1 : Nat) : Int)) from rfl, h1, ob]
theorem tindex_loop (N : Nat) (hs : List Int) (v : Int) (hm : hs.length ≤ 1000) : ∀ (k i m : Nat), i + k = hs.length → k < m → (∀ j, j < i → hAt hs j ≠ v) → (∃ j, j < hs.length ∧ hAt hs j = v) →
    ∃ b : Nat, l_slices_Index_Lint_int_1 N m (hs, v, ((hs.length : Nat) : Int), (i : Int)) = some (.inr (b : Int)) ∧ b < hs.length ∧ hAt hs b = v ∧ ∀ j, j < b → hAt hs j ≠ v
  | k, i, 0, h1, h2, h3, h4 => by omega
  | 0, i, m + 1, h1, h2, h3, h4 => by
    obtain ⟨j, h5, h6⟩ := h4
    exact absurd h6 (h3 j (by omega))
  | k + 1, i, m + 1, h1, h2, h3, h4 => by
    have hx := hAt_get (hs := hs) (j := i) (by omega)
    rw [l_slices_Index_Lint_int_1_s, cd, if_pos (by omega), nth_of hx, ob, cd, w64n (by omega)]
    by_cases h : v = hAt hs i
    · rw [if_pos h]
      exact ⟨i, rfl, by omega, h.symm, h3⟩
    · rw [if_neg h]
      exact tindex_loop N hs v hm k (i + 1) m (by omega) (by omega) (fun j hj => by
        by_cases e : j = i
        · subst e; exact fun e => h e.symm
        · exact h3 j (by omega)) h4
theorem head_ex (N : Nat) (hN : Fu + 2 ≤ N) (hs : List Int) (hm : hs.length ≤ 1000) (h0 : 0 < hs.length) : ∃ (a : Int) (b : Nat), m_slices_Max_Lint_int N hs = some a ∧ m_slices_Index_Lint_int N (hs, a) = some (b : Int) ∧ IsHead hs hs.length b ∧ a = hAt hs b := by
  obtain ⟨a, h1, h2, h3⟩ := tmax_eq N (by omega) hs hm h0
  obtain ⟨N, rfl⟩ : ∃ n, N = n + 1 := ⟨N - 1, by omega⟩
  obtain ⟨b, h4, h5, h6, h7⟩ := tindex_loop N hs a hm hs.length 0 N (by omega) (by have := Fu_eq; omega) (fun j hj => by omega) h3
  refine ⟨a, b, h1, ?_, ⟨h5, fun i hi => by rw [h6]; exact h2 i hi, fun i hi => ?_⟩, h6.symm⟩
  · rw [m_slices_Index_Lint_int_eq, show ((0 : Int) = ((0 : Nat) : Int)) from rfl, h4]
    rfl
  · have := h2 i (by omega)
    have := h7 i hi
    omega
def headN (hs : List Int) : Nat := srch (fun j => decide (∀ i, i < hs.length → hAt hs i ≤ hAt hs j)) hs.length 0
theorem headN_of {hs : List Int} {b : Nat} (h : IsHead hs hs.length b) : headN hs = b := by
  obtain ⟨a1, a2, a3, a4⟩ := srch_ok (fun j => decide (∀ i, i < hs.length → hAt hs i ≤ hAt hs j)) hs.length 0 b (by omega) (by have := h.lt; omega) (by simpa using h.le)
  refine IsHead.uniq (hs := hs) (n := hs.length) ⟨by have := h.lt; unfold headN; omega, by simpa [headN] using a1, fun i hi => ?_⟩ h
  have h5 := a4 i (by omega) hi
  have h6 : ∀ i, i < hs.length → hAt hs i ≤ hAt hs (headN hs) := by simpa [headN] using a1
  have hlt : headN hs < hs.length := by have := h.lt; unfold headN; omega
  have h7 := h6 i (by omega)
  rcases Int.lt_or_eq_of_le h7 with e | e
  · exact e
  · simp only [decide_eq_false_iff_not] at h5
    exact absurd (fun j hj => by rw [e]; exact h6 j hj) h5
def headOf (t t2 : List Int) (t3 : List (List Int)) : Int := if TowerR t t2 t3 then (headN t2 : Nat) else -1
theorem head_eq (N : Nat) (hN : Fu + 7 ≤ N) (t t2 : List Int) (t3 : List (List Int)) (h1 : t.length ≤ 9223372036854775807) (h2 : t2.length ≤ 9223372036854775807) : m_tower_Head N (t, t2, t3) = some (headOf t t2 t3) := by
  obtain ⟨N, rfl⟩ : ∃ n, N = n + 1 := ⟨N - 1, by omega⟩
  rw [m_tower_Head_eq, tright_eq N (by omega) t t2 t3 h1 h2, ob]
  unfold headOf
  by_cases h : TowerR t t2 t3
  · obtain ⟨l1, l2, l3⟩ := towerR_len h
    obtain ⟨a, b, e1, e2, e3, e4⟩ := head_ex N (by omega) t2 (by omega) l3
    rw [e1, ob, e2, ob, if_pos h, headN_of e3]
    simp [h]
  · rw [if_neg h]
    simp [h]
end Go.Proofs.Ytiblkkkgajklfaa
