/- The law TowerLevels, told plainly. -/
import Derived.Test.YtmijkdlkhakmiaaDoorTowG
set_option linter.unusedVariables false
set_option linter.unusedSimpArgs false
namespace Go.Proofs.YtmijkdlkhakmiaaDoor
open Go Go.RowKit

/-- how many of so many are so high -/
def cl (hs : List Int) (h : Nat) : Nat → Nat
  | 0 => 0
  | k + 1 => cl hs h k + if (h : Int) < hAt hs k then 1 else 0
theorem cl_len (hs : List Int) (h : Nat) : ∀ k, (lvOf hs (h : Int) k).length = cl hs h k
  | 0 => rfl
  | k + 1 => by
    rw [lvOf_succ, List.length_append, cl_len hs h k, cl]
    split <;> rfl
theorem cl_le (hs : List Int) (h : Nat) : ∀ k, cl hs h k ≤ k
  | 0 => Nat.le_refl _
  | k + 1 => by
    have := cl_le hs h k
    rw [cl]
    split <;> omega
theorem cl_anti (hs : List Int) (h : Nat) : ∀ k, cl hs (h + 1) k ≤ cl hs h k
  | 0 => Nat.le_refl _
  | k + 1 => by
    have := cl_anti hs h k
    rw [cl, cl]
    split <;> split <;> omega
theorem cl_zero {hs : List Int} (hh : HighR hs) : ∀ k, k ≤ hs.length → cl hs 0 k = k
  | 0, _ => rfl
  | k + 1, hk => by
    have := high_at hh (j := k) (by omega)
    rw [cl, cl_zero hh k (by omega), if_pos (by omega)]
theorem cl_top {hs : List Int} (hh : HighR hs) : ∀ k, k ≤ hs.length → cl hs 8 k = 0
  | 0, _ => rfl
  | k + 1, hk => by
    have := high_at hh (j := k) (by omega)
    rw [cl, cl_top hh k (by omega), if_neg (by omega)]
def sumH (hs : List Int) : Nat → Int
  | 0 => 0
  | k + 1 => sumH hs k + hAt hs k
def allH (hs : List Int) (k : Nat) : Nat → Nat
  | 0 => 0
  | h + 1 => allH hs k h + cl hs h k
theorem all_sum {hs : List Int} (hh : HighR hs) : ∀ k, k ≤ hs.length → ((allH hs k 9 : Nat) : Int) = sumH hs k
  | 0, _ => rfl
  | k + 1, hk => by
    have hb := high_at hh (j := k) (by omega)
    have ih := all_sum hh k (by omega)
    have e : ∀ h, cl hs h (k + 1) = cl hs h k + if (h : Int) < hAt hs k then 1 else 0 := fun h => rfl
    simp only [allH, sumH] at ih ⊢
    rw [e 0, e 1, e 2, e 3, e 4, e 5, e 6, e 7, e 8, ← ih]
    obtain ⟨H, hH⟩ : ∃ H : Nat, hAt hs k = (H : Int) := ⟨_, (Int.toNat_of_nonneg (by omega)).symm⟩
    rw [hH] at hb ⊢
    have : H = 1 ∨ H = 2 ∨ H = 3 ∨ H = 4 ∨ H = 5 ∨ H = 6 ∨ H = 7 ∨ H = 8 := by omega
    rcases this with rfl | rfl | rfl | rfl | rfl | rfl | rfl | rfl <;> simp <;> omega
theorem sumH_le {hs : List Int} (hh : HighR hs) : ∀ k, k ≤ hs.length → 0 ≤ sumH hs k ∧ sumH hs k ≤ 8 * k
  | 0, _ => by simp [sumH]
  | k + 1, hk => by
    have := high_at hh (j := k) (by omega)
    have := sumH_le hh k (by omega)
    simp only [sumH]
    omega
theorem allH_le (hs : List Int) (k : Nat) : ∀ h, allH hs k h ≤ h * k
  | 0 => by simp [allH]
  | h + 1 => by
    have := allH_le hs k h
    have := cl_le hs h k
    simp only [allH]
    rw [Nat.add_mul]; omega
theorem lv_loop3 (N : Nat) (hs t : List Int) (all last : Int) (hh : HighR hs) (hm : hs.length ≤ 1000) : ∀ (q i m : Nat), i + q = hs.length → q < m →
    l_law14_TowerLevels_3 N m (hs, all, sumH hs i, last, sumH hs i, (i : Int), t, hs, nextOf hs) = some (.inl (all, sumH hs hs.length, last, sumH hs hs.length))
  | q, i, 0, h1, h2 => by omega
  | 0, i, m + 1, h1, h2 => by
    rw [l_law14_TowerLevels_3_s, cd, if_neg (by omega)]
    have : i = hs.length := by omega
    rw [this]
  | q + 1, i, m + 1, h1, h2 => by
    have hi : i < hs.length := by omega
    have hx := hAt_get hi
    obtain ⟨H, a1, a2, a3, a4, a5, a6, a7⟩ := top_links hh hi
    have hs1 := sumH_le hh i (by omega)
    have hl : (nextOf hs).length = hs.length := by simp [nextOf]
    rw [l_law14_TowerLevels_3_s, cd, if_pos (by omega), nth_of hx, ob, cd, if_neg (by omega), nth_of a4, ob, ob, cdn, a5, a1, if_pos rfl, ob, a5, w64 (by omega) (by omega), w64n (by omega)]
    have e : sumH hs i + (H : Int) = sumH hs (i + 1) := by simp only [sumH]; rw [a1]
    rw [e]
    exact lv_loop3 N hs t all last hh hm q (i + 1) m (by omega) (by omega)
theorem lv_loop1 (N : Nat) (hN : Fu + 8 ≤ N) (ts hs : List Int) (hT : TowerR ts hs (nextOf hs)) : ∀ (q h m : Nat), h + q = 9 → q < m →
    l_law14_TowerLevels_1 N m (hs, ((allH hs hs.length h : Nat) : Int), 0, ((if h = 0 then hs.length else cl hs (h - 1) hs.length : Nat) : Int), (h : Int), ts, hs, nextOf hs) = some (.inl (hs, ((allH hs hs.length 9 : Nat) : Int), 0, ((cl hs 8 hs.length : Nat) : Int), ts, hs, nextOf hs))
  | q, h, 0, h1, h2 => by omega
  | 0, h, m + 1, h1, h2 => by
    have hh : h = 9 := by omega
    subst hh
    rw [l_law14_TowerLevels_1_s, cd, if_neg (by omega)]
    rfl
  | q + 1, h, m + 1, h1, h2 => by
    obtain ⟨l1, l2, l3⟩ := towerR_len hT
    have hb := hT.1.2.2.2
    have hlen := cl_len hs h hs.length
    have hle := cl_le hs h hs.length
    have hal := allH_le hs hs.length h
    have hal2 : h * hs.length ≤ 9 * 1000 := Nat.mul_le_mul (by omega) (by omega)
    have hlv : levelOf ts hs (nextOf hs) (h : Int) = lvOf hs (h : Int) hs.length := if_pos hT
    have ih := lv_loop1 N hN ts hs hT q (h + 1) m (by omega) (by omega)
    rw [if_neg (by omega), Nat.add_sub_cancel] at ih
    obtain ⟨M, hM⟩ : ∃ M, N = M + 1 := ⟨N - 1, by omega⟩
    rw [l_law14_TowerLevels_1_s, cd, if_pos (by omega), level_eq N (by omega) ts hs _ _ (by omega) (by omega), ob, hlv]
    have e2 : ∀ b1 b2 b3, l_law14_TowerLevels_2 N N (hs, ((allH hs hs.length h : Nat) : Int), 0, ((if h = 0 then hs.length else cl hs (h - 1) hs.length : Nat) : Int), (h : Int), ts, hs, nextOf hs, lvOf hs (h : Int) hs.length) = some (.inr (hs, ((allH hs hs.length h : Nat) : Int), 0, (h : Int), (h : Int), b1, b2, b3, ts, hs, nextOf hs, lvOf hs (h : Int) hs.length)) → True := fun _ _ _ _ => trivial
    have e3 : ∃ b1 b2 b3, l_law14_TowerLevels_2 N N (hs, ((allH hs hs.length h : Nat) : Int), 0, ((if h = 0 then hs.length else cl hs (h - 1) hs.length : Nat) : Int), (h : Int), ts, hs, nextOf hs, lvOf hs (h : Int) hs.length) = some (.inr (hs, ((allH hs hs.length h : Nat) : Int), 0, (h : Int), (h : Int), b1, b2, b3, ts, hs, nextOf hs, lvOf hs (h : Int) hs.length)) := by
      conv => enter [1, b1, 1, b2, 1, b3, 1, 2]; rw [hM]
      simp only [l_law14_TowerLevels_2_s, hlen]
      by_cases h0 : h = 0
      · subst h0
        have := cl_zero hb hs.length (Nat.le_refl _)
        rw [cd, if_neg (by rw [this]; simp)]
        simp [this]
      · have h3 := cl_anti hs (h - 1) hs.length
        rw [show h - 1 + 1 = h by omega] at h3
        rw [cd, if_neg (by rw [if_neg h0]; omega), cd, if_neg (by omega)]
        exact ⟨_, _, _, rfl⟩
    obtain ⟨b1, b2, b3, e3⟩ := e3
    rw [e3, ob]
    simp only
    rw [hlen, w64n (by omega), w64 (by omega) (by omega)]
    rw [show ((allH hs hs.length h : Nat) : Int) + ((cl hs h hs.length : Nat) : Int) = ((allH hs hs.length (h + 1) : Nat) : Int) by simp [allH]]
    exact ih
theorem towerLevels_eq (N : Nat) (hN : Fu + 11 ≤ N) (ts hs : List Int) (h1 : ts.length ≤ 9223372036854775807) (h2 : hs.length ≤ 9223372036854775807) : m_law14_TowerLevels N (ts, hs) = some true := by
  obtain ⟨N, rfl⟩ : ∃ n, N = n + 1 := ⟨N - 1, by omega⟩
  rw [m_law14_TowerLevels_eq, alive_eq N (by omega), ob]
  simp only [Bool.not_true, cond_false]
  rw [cd]
  by_cases c1 : (60 : Int) < ts.length
  · rw [if_pos c1]
  rw [if_neg c1, cd]
  by_cases c2 : (60 : Int) < hs.length
  · rw [if_pos c2]
  rw [if_neg c2, build_eq N (by omega) ts hs h1 h2, ob]
  unfold buildOf
  by_cases hno : ¬ TowR ts hs
  · rw [if_neg hno]; rfl
  have h := Decidable.not_not.1 hno
  have hT : TowerR ts hs (nextOf hs) := ⟨h, rfl⟩
  obtain ⟨l1, l2, l3⟩ := towerR_len hT
  have e1 := lv_loop1 N (by omega) ts hs hT 9 0 N (by omega) (by have := Fu_eq; omega)
  have e3 := lv_loop3 N hs ts ((allH hs hs.length 9 : Nat) : Int) ((cl hs 8 hs.length : Nat) : Int) h.2.2.2 (by omega) hs.length 0 N (by omega) (by have := Fu_eq; omega)
  rw [if_pos rfl, show ((allH hs hs.length 0 : Nat) : Int) = 0 from rfl, show (((0 : Nat) : Int) = 0) from rfl] at e1
  rw [show sumH hs 0 = 0 from rfl, show (((0 : Nat) : Int) = 0) from rfl] at e3
  rw [if_pos h]
  simp only [decide_true, Bool.not_true, cond_false]
  rw [← l2, e1, ob]
  simp only
  rw [e3, ob]
  simp only
  rw [all_sum h.2.2.2 hs.length (Nat.le_refl _), cl_top h.2.2.2 hs.length (Nat.le_refl _)]
  simp
end Go.Proofs.YtmijkdlkhakmiaaDoor
