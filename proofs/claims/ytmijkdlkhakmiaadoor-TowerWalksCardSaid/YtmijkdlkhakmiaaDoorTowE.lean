/- What is read of a tower: levels, heads, walks; the program's and the document's, told plainly. -/
import Derived.Test.YtmijkdlkhakmiaaDoorTowD
set_option linter.unusedVariables false
set_option linter.unusedSimpArgs false
namespace Go.Proofs.YtmijkdlkhakmiaaDoor
open Go Go.RowKit

/-! levels -/
def lvN (hs : List Int) (level : Int) (k : Nat) : List Nat := (List.range k).filter fun i => decide (level < hAt hs i)
def lvOf (hs : List Int) (level : Int) (k : Nat) : List Int := (lvN hs level k).map fun i : Nat => (i : Int)
theorem lvOf_succ (hs : List Int) (level : Int) (k : Nat) : lvOf hs level (k + 1) = lvOf hs level k ++ if level < hAt hs k then [(k : Int)] else [] := by
  unfold lvOf lvN
  rw [List.range_succ, List.filter_append, List.map_append]
  congr 1
  by_cases h : level < hAt hs k <;> simp [h]
theorem lvOf_len (hs : List Int) (level : Int) (k : Nat) : (lvOf hs level k).length ≤ k := by
  unfold lvOf lvN
  rw [List.length_map]
  exact Nat.le_trans (List.length_filter_le _ _) (by simp)
theorem level_loop (N : Nat) (hs : List Int) (level : Int) (hm : hs.length ≤ 1000) : ∀ (k i m : Nat), i + k = hs.length → k < m →
    l_tower_Level_1 N m (level, hs, ((hs.length : Nat) : Int), (i : Int), lvOf hs level i) = some (lvOf hs level hs.length)
  | k, i, 0, h1, h2 => by omega
  | 0, i, m + 1, h1, h2 => by
    rw [l_tower_Level_1_s, cd, if_neg (by omega)]
    have : i = hs.length := by omega
    rw [this]
  | k + 1, i, m + 1, h1, h2 => by
    have hx := hAt_get (hs := hs) (j := i) (by omega)
    have hl := lvOf_len hs level i
    have ih := level_loop N hs level hm k (i + 1) m (by omega) (by omega)
    rw [lvOf_succ] at ih
    rw [l_tower_Level_1_s, cd, if_pos (by omega), nth_of hx, ob, cd, w64n (by omega)]
    by_cases h : level < hAt hs i
    · rw [if_pos h] at ih
      rw [if_pos h, app_of (by omega) (by simp; omega), ob]
      exact ih
    · rw [if_neg h, List.append_nil] at ih
      rw [if_neg h]
      exact ih
theorem rlevel_loop (N : Nat) (t hs : List Int) (t3 : List (List Int)) (level : Int) (hm : hs.length ≤ 1000) : ∀ (k i m : Nat), i + k = hs.length → k < m →
    l_ref14_Level_1 N m (level, (i : Int), t, hs, t3, lvOf hs level i) = some (lvOf hs level hs.length)
  | k, i, 0, h1, h2 => by omega
  | 0, i, m + 1, h1, h2 => by
    rw [l_ref14_Level_1_s, cd, if_neg (by omega)]
    have : i = hs.length := by omega
    rw [this]
  | k + 1, i, m + 1, h1, h2 => by
    have hx := hAt_get (hs := hs) (j := i) (by omega)
    have hl := lvOf_len hs level i
    have ih := rlevel_loop N t hs t3 level hm k (i + 1) m (by omega) (by omega)
    rw [lvOf_succ] at ih
    rw [l_ref14_Level_1_s, cd, if_pos (by omega), nth_of hx, ob, cd, w64n (by omega)]
    by_cases h : level < hAt hs i
    · rw [if_pos h] at ih
      rw [if_pos h, app_of (by omega) (by simp; omega), ob]
      exact ih
    · rw [if_neg h, List.append_nil] at ih
      rw [if_neg h]
      exact ih
theorem towerR_len {t t2 : List Int} {t3 : List (List Int)} (h : TowerR t t2 t3) : t.length ≤ 1000 ∧ t2.length = t.length ∧ 0 < t2.length := by
  obtain ⟨⟨h0, h1, h2, _⟩, _⟩ := h
  have := List.length_pos_iff.2 h0
  exact ⟨h2.1, h1, by omega⟩
def levelOf (t t2 : List Int) (t3 : List (List Int)) (level : Int) : List Int := if TowerR t t2 t3 then lvOf t2 level t2.length else []
theorem level_eq (N : Nat) (hN : Fu + 7 ≤ N) (t t2 : List Int) (t3 : List (List Int)) (level : Int) (h1 : t.length ≤ 9223372036854775807) (h2 : t2.length ≤ 9223372036854775807) : m_tower_Level N (t, t2, t3, level) = some (levelOf t t2 t3 level) := by
  obtain ⟨N, rfl⟩ : ∃ n, N = n + 1 := ⟨N - 1, by omega⟩
  rw [m_tower_Level_eq, tright_eq N (by omega) t t2 t3 h1 h2, ob]
  unfold levelOf
  by_cases h : TowerR t t2 t3
  · obtain ⟨l1, l2, l3⟩ := towerR_len h
    have := level_loop N t2 level (by omega) t2.length 0 N (by omega) (by have := Fu_eq; omega)
    rw [show lvOf t2 level 0 = [] from rfl, show (((0 : Nat) : Int) = 0) from rfl] at this
    rw [this, if_pos h]
    simp [h, ob]
  · rw [if_neg h]
    simp [h]
theorem rlevel_eq (N : Nat) (hN : Fu + 7 ≤ N) (t t2 : List Int) (t3 : List (List Int)) (level : Int) (h1 : t.length ≤ 9223372036854775807) (h2 : t2.length ≤ 9223372036854775807) : m_ref14_Level N (t, t2, t3, level) = some (levelOf t t2 t3 level) := by
  obtain ⟨N, rfl⟩ : ∃ n, N = n + 1 := ⟨N - 1, by omega⟩
  rw [m_ref14_Level_eq, rright_eq N (by omega) t t2 t3 h1 h2, ob]
  unfold levelOf
  by_cases h : TowerR t t2 t3
  · obtain ⟨l1, l2, l3⟩ := towerR_len h
    have := rlevel_loop N t t2 t3 level (by omega) t2.length 0 N (by omega) (by have := Fu_eq; omega)
    rw [show lvOf t2 level 0 = [] from rfl, show (((0 : Nat) : Int) = 0) from rfl] at this
    rw [this, if_pos h]
    simp [h, ob]
  · rw [if_neg h]
    simp [h]

/-! heads -/
/-- the first of the highest ones among so many -/
structure IsHead (hs : List Int) (n b : Nat) : Prop where
  lt : b < n
  le : ∀ i, i < n → hAt hs i ≤ hAt hs b
  fst : ∀ i, i < b → hAt hs i < hAt hs b
theorem IsHead.uniq {hs : List Int} {n b c : Nat} (h : IsHead hs n b) (k : IsHead hs n c) : b = c := by
  rcases Nat.lt_trichotomy b c with e | e | e
  · have := k.fst b e; have := h.le c k.lt; omega
  · exact e
  · have := h.fst c e; have := k.le b h.lt; omega
theorem rhead_loop (N : Nat) (t hs : List Int) (t3 : List (List Int)) (hm : hs.length ≤ 1000) : ∀ (k i b m : Nat), i + k = hs.length → k < m → IsHead hs i b →
    ∃ b' : Nat, l_ref14_Head_1 N m ((b : Int), (i : Int), t, hs, t3) = some (b' : Int) ∧ IsHead hs hs.length b'
  | k, i, b, 0, h1, h2, hb => by omega
  | 0, i, b, m + 1, h1, h2, hb => by
    rw [l_ref14_Head_1_s, cd, if_neg (by omega)]
    have : i = hs.length := by omega
    exact ⟨b, rfl, this ▸ hb⟩
  | k + 1, i, b, m + 1, h1, h2, hb => by
    have hx := hAt_get (hs := hs) (j := i) (by omega)
    have hy := hAt_get (hs := hs) (j := b) (by have := hb.lt; omega)
    rw [l_ref14_Head_1_s, cd, if_pos (by omega), nth_of hx, ob, nth_of hy, ob, cd, w64n (by omega)]
    by_cases h : hAt hs b < hAt hs i
    · rw [if_pos h]
      exact rhead_loop N t hs t3 hm k (i + 1) i m (by omega) (by omega) ⟨by omega, fun j hj => by
        by_cases e : j = i
        · subst e; exact Int.le_refl _
        · have := hb.le j (by omega); omega, fun j hj => by have := hb.le j hj; omega⟩
    · rw [if_neg h]
      exact rhead_loop N t hs t3 hm k (i + 1) b m (by omega) (by omega) ⟨by have := hb.lt; omega, fun j hj => by
        by_cases e : j = i
        · subst e; omega
        · exact hb.le j (by omega), hb.fst⟩
theorem max_loop (N : Nat) (hs : List Int) (hm : hs.length ≤ 1000) : ∀ (k i m : Nat) (a : Int), i + k = hs.length → k < m → (∀ j, j < i → hAt hs j ≤ a) → (∃ j, j < hs.length ∧ hAt hs j = a) →
    ∃ a', l_slices_Max_Lint_int_1 N m (hs, a, (i : Int)) = some a' ∧ (∀ j, j < hs.length → hAt hs j ≤ a') ∧ ∃ j, j < hs.length ∧ hAt hs j = a'
  | k, i, 0, a, h1, h2, h3, h4 => by omega
  | 0, i, m + 1, a, h1, h2, h3, h4 => by
    rw [l_slices_Max_Lint_int_1_s, cd, if_neg (by omega)]
    exact ⟨a, rfl, fun j hj => h3 j (by omega), h4⟩
  | k + 1, i, m + 1, a, h1, h2, h3, h4 => by
    have hx := hAt_get (hs := hs) (j := i) (by omega)
    rw [l_slices_Max_Lint_int_1_s, cd, if_pos (by omega), nth_of hx, ob, w64n (by omega)]
    refine max_loop N hs hm k (i + 1) m _ (by omega) (by omega) (fun j hj => ?_) ?_
    · by_cases e : j = i
      · subst e; split <;> omega
      · have := h3 j (by omega); split <;> omega
    · split
      · exact ⟨i, by omega, rfl⟩
      · exact h4
theorem tmax_eq (N : Nat) (hN : Fu + 1 ≤ N) (hs : List Int) (hm : hs.length ≤ 1000) (h0 : 0 < hs.length) : ∃ a, m_slices_Max_Lint_int N hs = some a ∧ (∀ j, j < hs.length → hAt hs j ≤ a) ∧ ∃ j, j < hs.length ∧ hAt hs j = a := by
  obtain ⟨N, rfl⟩ : ∃ n, N = n + 1 := ⟨N - 1, by omega⟩
  have hx := hAt_get (hs := hs) (j := 0) h0
  obtain ⟨a, h1, h2⟩ := max_loop N hs hm (hs.length - 1) 1 N (hAt hs 0) (by omega) (by have := Fu_eq; omega) (fun j hj => by
    have : j = 0 := by omega
    subst this; exact Int.le_refl _) ⟨0, h0, rfl⟩
  refine ⟨a, ?_, h2⟩
  rw [m_slices_Max_Lint_int_eq, cd, if_neg (by omega), show ((0 : Int) = ((0 : Nat) : Int)) from rfl, nth_of hx, ob, show ((1 : Int) = ((1 : Nat) : Int)) from rfl, h1, ob]
theorem tindex_loop (N : Nat) (hs : List Int) (v : Int) (hm : hs.length ≤ 1000) : ∀ (k i m : Nat), i + k = hs.length → k < m → (∀ j, j < i → hAt hs j ≠ v) → (∃ j, j < hs.length ∧ hAt hs j = v) →
    ∃ b : Nat, l_slices_Index_Lint_int_1 N m (hs, v, ((hs.length : Nat) : Int), (i : Int)) = some (.inr (b : Int)) ∧ b < hs.length ∧ hAt hs b = v ∧ ∀ j, j < b → hAt hs j ≠ v
  | k, i, 0, h1, h2, h3, h4 => by omega
  | 0, i, m + 1, h1, h2, h3, h4 => by
    obtain ⟨j, h5, h6⟩ := h4
    exact absurd h6 (h3 j (by omega))
  | k + 1, i, m + 1, h1, h2, h3, h4 => by
    have hx := hAt_get (hs := hs) (j := i) (by omega)
    rw [l_slices_Index_Lint_int_1_s, cd, if_pos (by omega), nth_of hx, ob, cd, w64n (by omega)]
    by_cases h : v = hAt hs i
    · rw [if_pos h]
      exact ⟨i, rfl, by omega, h.symm, h3⟩
    · rw [if_neg h]
      exact tindex_loop N hs v hm k (i + 1) m (by omega) (by omega) (fun j hj => by
        by_cases e : j = i
        · subst e; exact fun e => h e.symm
        · exact h3 j (by omega)) h4
theorem head_ex (N : Nat) (hN : Fu + 2 ≤ N) (hs : List Int) (hm : hs.length ≤ 1000) (h0 : 0 < hs.length) : ∃ (a : Int) (b : Nat), m_slices_Max_Lint_int N hs = some a ∧ m_slices_Index_Lint_int N (hs, a) = some (b : Int) ∧ IsHead hs hs.length b ∧ a = hAt hs b := by
  obtain ⟨a, h1, h2, h3⟩ := tmax_eq N (by omega) hs hm h0
  obtain ⟨N, rfl⟩ : ∃ n, N = n + 1 := ⟨N - 1, by omega⟩
  obtain ⟨b, h4, h5, h6, h7⟩ := tindex_loop N hs a hm hs.length 0 N (by omega) (by have := Fu_eq; omega) (fun j hj => by omega) h3
  refine ⟨a, b, h1, ?_, ⟨h5, fun i hi => by rw [h6]; exact h2 i hi, fun i hi => ?_⟩, h6.symm⟩
  · rw [m_slices_Index_Lint_int_eq, show ((0 : Int) = ((0 : Nat) : Int)) from rfl, h4]
    rfl
  · have := h2 i (by omega)
    have := h7 i hi
    omega
def headN (hs : List Int) : Nat := srch (fun j => decide (∀ i, i < hs.length → hAt hs i ≤ hAt hs j)) hs.length 0
theorem headN_of {hs : List Int} {b : Nat} (h : IsHead hs hs.length b) : headN hs = b := by
  obtain ⟨a1, a2, a3, a4⟩ := srch_ok (fun j => decide (∀ i, i < hs.length → hAt hs i ≤ hAt hs j)) hs.length 0 b (by omega) (by have := h.lt; omega) (by simpa using h.le)
  refine IsHead.uniq (hs := hs) (n := hs.length) ⟨by have := h.lt; unfold headN; omega, by simpa [headN] using a1, fun i hi => ?_⟩ h
  have h5 := a4 i (by omega) hi
  have h6 : ∀ i, i < hs.length → hAt hs i ≤ hAt hs (headN hs) := by simpa [headN] using a1
  have hlt : headN hs < hs.length := by have := h.lt; unfold headN; omega
  have h7 := h6 i (by omega)
  rcases Int.lt_or_eq_of_le h7 with e | e
  · exact e
  · simp only [decide_eq_false_iff_not] at h5
    exact absurd (fun j hj => by rw [e]; exact h6 j hj) h5
def headOf (t t2 : List Int) (t3 : List (List Int)) : Int := if TowerR t t2 t3 then (headN t2 : Nat) else -1
theorem head_eq (N : Nat) (hN : Fu + 7 ≤ N) (t t2 : List Int) (t3 : List (List Int)) (h1 : t.length ≤ 9223372036854775807) (h2 : t2.length ≤ 9223372036854775807) : m_tower_Head N (t, t2, t3) = some (headOf t t2 t3) := by
  obtain ⟨N, rfl⟩ : ∃ n, N = n + 1 := ⟨N - 1, by omega⟩
  rw [m_tower_Head_eq, tright_eq N (by omega) t t2 t3 h1 h2, ob]
  unfold headOf
  by_cases h : TowerR t t2 t3
  · obtain ⟨l1, l2, l3⟩ := towerR_len h
    obtain ⟨a, b, e1, e2, e3, e4⟩ := head_ex N (by omega) t2 (by omega) l3
    rw [e1, ob, e2, ob, if_pos h, headN_of e3]
    simp [h]
  · rw [if_neg h]
    simp [h]
theorem rhead_eq (N : Nat) (hN : Fu + 7 ≤ N) (t t2 : List Int) (t3 : List (List Int)) (h1 : t.length ≤ 9223372036854775807) (h2 : t2.length ≤ 9223372036854775807) : m_ref14_Head N (t, t2, t3) = some (headOf t t2 t3) := by
  obtain ⟨N, rfl⟩ : ∃ n, N = n + 1 := ⟨N - 1, by omega⟩
  rw [m_ref14_Head_eq, rright_eq N (by omega) t t2 t3 h1 h2, ob]
  unfold headOf
  by_cases h : TowerR t t2 t3
  · obtain ⟨l1, l2, l3⟩ := towerR_len h
    have hx := hAt_get (hs := t2) (j := 0) l3
    obtain ⟨N, rfl⟩ : ∃ n, N = n + 1 := ⟨N - 1, by omega⟩
    obtain ⟨b, e1, e2⟩ := rhead_loop (N + 1) t t2 t3 (by omega) (t2.length - 1) 1 0 N (by omega) (by have := Fu_eq; omega) ⟨by omega, fun i hi => by
      have : i = 0 := by omega
      subst this; exact Int.le_refl _, fun i hi => by omega⟩
    have e3 : l_ref14_Head_1 (N + 1) (N + 1) ((0 : Int), (0 : Int), t, t2, t3) = some (b : Int) := by
      rw [l_ref14_Head_1_s, cd, if_pos (by omega), show ((0 : Int) = ((0 : Nat) : Int)) from rfl, nth_of hx, ob, ob, cd, if_neg (by omega), w64n (by omega)]
      exact e1
    rw [e3, ob, if_pos h, headN_of e2]
    simp [h]
  · rw [if_neg h]
    simp [h]
end Go.Proofs.YtmijkdlkhakmiaaDoor
