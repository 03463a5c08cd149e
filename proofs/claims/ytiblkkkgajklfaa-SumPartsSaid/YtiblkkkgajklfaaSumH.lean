/- Too great ones; the laws SumAnswers and SumBuilds, told plainly. -/
import Derived.Test.YtiblkkkgajklfaaSumHa
set_option linter.unusedVariables false
set_option linter.unusedSimpArgs false
namespace Go.Proofs.Ytiblkkkgajklfaa
open Go Go.RowKit

theorem great_loop (N : Nat) (most : Int) (t t2 : List Int) (t3 : List (List Int)) (hm : t3.length ≤ 9223372036854775807) : ∀ (k i m : Nat) (n : Int), i + k = t3.length → k < m → ∃ r, l_ref14_Great_1 N m (most, n, (i : Int), t, t2, t3) = some r
  | k, i, 0, n, h1, h2 => by omega
  | 0, i, m + 1, n, h1, h2 => by
    rw [l_ref14_Great_1_s, cd, if_neg (by omega)]
    exact ⟨_, rfl⟩
  | k + 1, i, m + 1, n, h1, h2 => by
    obtain ⟨x, hx⟩ := get_at (xs := t3) (i := i) (by omega)
    rw [l_ref14_Great_1_s, cd, if_pos (by omega), cd]
    by_cases h : n ≤ most
    · rw [if_pos h, nth_of hx, ob, w64n (by omega)]
      exact great_loop N most t t2 t3 hm k (i + 1) m _ (by omega) (by omega)
    · rw [if_neg h]
      exact ⟨_, rfl⟩
theorem great_ex (N : Nat) (hN : Fu + 1 ≤ N) (most : Int) (t t2 : List Int) (t3 : List (List Int)) (hm : t3.length ≤ 9223372036854775807) : ∃ b, m_ref14_Great N (t, t2, t3, most) = some b := by
  obtain ⟨N, rfl⟩ : ∃ n, N = n + 1 := ⟨N - 1, by omega⟩
  obtain ⟨r, hr⟩ := great_loop N most t t2 t3 hm t3.length 0 N (IntKind.wrap .i64 ((IntKind.wrap .i64 ((((List.length t) : Nat) : Int) + (((List.length t2) : Nat) : Int))) + (((List.length t3) : Nat) : Int))) (by omega) (by have := Fu_eq; omega)
  rw [m_ref14_Great_eq, show ((0 : Int) = ((0 : Nat) : Int)) from rfl, hr]
  exact ⟨_, rfl⟩
theorem sgreat_loop (N : Nat) (most : Int) (s : List (List Int)) (hm : s.length ≤ 9223372036854775807) : ∀ (k i m : Nat) (n : Int), i + k = s.length → k < m → ∃ r, l_ref16_Great_1 N m (s, most, n, (i : Int)) = some (most, r) ∧ (most < n → r = n)
  | k, i, 0, n, h1, h2 => by omega
  | 0, i, m + 1, n, h1, h2 => by
    rw [l_ref16_Great_1_s, cd, if_neg (by omega)]
    exact ⟨_, rfl, fun _ => rfl⟩
  | k + 1, i, m + 1, n, h1, h2 => by
    obtain ⟨x, hx⟩ := get_at (xs := s) (i := i) (by omega)
    rw [l_ref16_Great_1_s, cd, if_pos (by omega), cd]
    by_cases h : n ≤ most
    · rw [if_pos h, nth_of hx, ob, w64n (by omega)]
      obtain ⟨r, h3, _⟩ := sgreat_loop N most s hm k (i + 1) m (IntKind.wrap .i64 (n + ((x.length : Nat) : Int))) (by omega) (by omega)
      exact ⟨r, h3, fun h4 => by omega⟩
    · rw [if_neg h]
      exact ⟨_, rfl, fun _ => rfl⟩
theorem sgreat_ex (N : Nat) (hN : Fu + 1 ≤ N) (s : List (List Int)) (hm : s.length ≤ 9223372036854775807) : ∃ b, m_ref16_Great N (s, 200) = some b ∧ (b = false → s.length ≤ 200) := by
  obtain ⟨N, rfl⟩ : ∃ n, N = n + 1 := ⟨N - 1, by omega⟩
  obtain ⟨r, hr, h2⟩ := sgreat_loop N 200 s hm s.length 0 N ((s.length : Nat) : Int) (by omega) (by have := Fu_eq; omega)
  rw [m_ref16_Great_eq, show ((0 : Int) = ((0 : Nat) : Int)) from rfl, hr]
  refine ⟨_, rfl, fun h => ?_⟩
  by_cases h3 : (200 : Int) < ((s.length : Nat) : Int)
  · rw [h2 h3] at h
    simp only [decide_eq_false_iff_not] at h
    omega
  · omega
theorem lgreat_ex (N : Nat) (hN : Fu + 2 ≤ N) (t t2 : List Int) (t3 s : List (List Int)) (h3 : t3.length ≤ 9223372036854775807) (hm : s.length ≤ 9223372036854775807) : ∃ b, m_law16_great N (t, t2, t3, s) = some b ∧ (b = false → s.length ≤ 200) := by
  obtain ⟨N, rfl⟩ : ∃ n, N = n + 1 := ⟨N - 1, by omega⟩
  obtain ⟨a, ha⟩ := great_ex N (by omega) 200 t t2 t3 h3
  obtain ⟨b, hb, h4⟩ := sgreat_ex N (by omega) s hm
  rw [m_law16_great_eq, ha, ob]
  cases a with
  | true => exact ⟨_, rfl, fun e => by cases e⟩
  | false =>
    rw [cond_false, hb]
    exact ⟨_, rfl, h4⟩
theorem weightsOf_len (t t2 : List Int) (t3 s : List (List Int)) : (weightsOf t t2 t3 s).length ≤ s.length := by
  unfold weightsOf
  split
  · simp [firstsOf]
  · simp
theorem sumAnswers_eq (N : Nat) (hN : Fu + 12 ≤ N) (t t2 : List Int) (t3 s : List (List Int)) (a b : Int) (h1 : t.length ≤ 9223372036854775807) (h2 : t2.length ≤ 9223372036854775807) (h3 : t3.length ≤ 9223372036854775807) (h4 : s.length ≤ 9223372036854775807) : m_law16_SumAnswers N (t, t2, t3, s, a, b) = some true := by
  obtain ⟨N, rfl⟩ : ∃ n, N = n + 1 := ⟨N - 1, by omega⟩
  obtain ⟨g, hg, hs⟩ := lgreat_ex N (by omega) t t2 t3 s h3 h4
  rw [m_law16_SumAnswers_eq, alive_eq N (by omega), ob]
  simp only [Bool.not_true, cond_false]
  rw [hg, ob]
  cases g with
  | true => rfl
  | false =>
    have hs := hs rfl
    have hl := weightsOf_len t t2 t3 s
    rw [cond_false, total_eq N (by omega) t t2 t3 s h1 h2 (by omega), rtotal_eq N (by omega) t t2 t3 s h1 h2 (by omega), between_eq N (by omega) t t2 t3 s a b h1 h2 (by omega), rbetween_eq N (by omega) t t2 t3 s a b h1 h2 (by omega), weights_eq N (by omega) t t2 t3 s h1 h2 (by omega), rweights_eq N (by omega) t t2 t3 s h1 h2 (by omega)]
    simp only [ob]
    rw [ints_eq N (by omega) _ _ (by omega)]
    simp [ob]
theorem changeOf_lens (t t2 : List Int) (t3 s : List (List Int)) (ps ws : List Int) : (changeOf t t2 t3 s ps ws).2.2.length ≤ 1000 ∧ ∀ x ∈ (changeOf t t2 t3 s ps ws).2.2, x.length ≤ 8 := by
  unfold changeOf
  split
  · rename_i h
    split
    · have := sumOf_lens t t2 t3 (setAll (firstsOf s) ps ws)
      rwa [sumOf, if_pos (change_new h.1 h.2.2)] at this
    · exact ⟨by simp, fun x hx => by cases hx⟩
  · exact ⟨by simp, fun x hx => by cases hx⟩
theorem lists_same (N : Nat) (hN : Fu + 2 ≤ N) (a : List (List Int)) (h : a.length ≤ 1000 ∧ ∀ x ∈ a, x.length ≤ 8) : m_ref14_Lists N (a, a) = some true := by
  rw [lists_eq N hN a a (Nat.le_trans h.1 (by decide)) (fun x hx => Nat.le_trans (h.2 x hx) (by decide))]
  simp
theorem sumBuilds_eq (N : Nat) (hN : Fu + 12 ≤ N) (t t2 : List Int) (t3 : List (List Int)) (w : List Int) (s : List (List Int)) (ps ws : List Int) (h1 : t.length ≤ 9223372036854775807) (h2 : t2.length ≤ 9223372036854775807) (h3 : t3.length ≤ 9223372036854775807) (h4 : s.length ≤ 9223372036854775807) : m_law16_SumBuilds N (t, t2, t3, w, s, ps, ws) = some true := by
  obtain ⟨N, rfl⟩ : ∃ n, N = n + 1 := ⟨N - 1, by omega⟩
  obtain ⟨g, hg, hs⟩ := lgreat_ex N (by omega) t t2 t3 s h3 h4
  rw [m_law16_SumBuilds_eq, alive_eq N (by omega), ob]
  simp only [Bool.not_true, cond_false]
  rw [hg, ob]
  cases g with
  | true => rfl
  | false =>
    have hs := hs rfl
    rw [cond_false, cd]
    by_cases c1 : (200 : Int) < ((w.length : Nat) : Int)
    · rw [if_pos c1]
    rw [if_neg c1, cd]
    by_cases c2 : (30 : Int) < ((ps.length : Nat) : Int)
    · rw [if_pos c2]
    rw [if_neg c2, cd]
    by_cases c3 : (30 : Int) < ((ws.length : Nat) : Int)
    · rw [if_pos c3]
    rw [if_neg c3, sbuild_eq N (by omega) t t2 t3 w h1 h2 (by omega), rbuilds N (by omega) t t2 t3 w h1 h2 (by omega), change_eq N (by omega) t t2 t3 s ps ws h1 h2 (by omega) (by omega) (by omega), rchange_eq N (by omega) t t2 t3 s ps ws h1 h2 (by omega) (by omega) (by omega)]
    simp only [ob, lists_same N (by omega) _ (sumOf_lens t t2 t3 w), lists_same N (by omega) _ (changeOf_lens t t2 t3 s ps ws)]
    simp
end Go.Proofs.Ytiblkkkgajklfaa
