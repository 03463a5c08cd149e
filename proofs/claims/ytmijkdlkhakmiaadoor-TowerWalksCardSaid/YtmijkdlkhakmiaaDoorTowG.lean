/- The law TowerAnswers, told plainly. -/
import Derived.Test.YtmijkdlkhakmiaaDoorTowF
set_option linter.unusedVariables false
set_option linter.unusedSimpArgs false
namespace Go.Proofs.YtmijkdlkhakmiaaDoor
open Go Go.RowKit

theorem great_loop (N : Nat) (most : Int) (t t2 : List Int) (t3 : List (List Int)) (hm : t3.length ≤ 9223372036854775807) : ∀ (k i m : Nat) (n : Int), i + k = t3.length → k < m → ∃ r, l_ref14_Great_1 N m (most, n, (i : Int), t, t2, t3) = some r
  | k, i, 0, n, h1, h2 => by omega
  | 0, i, m + 1, n, h1, h2 => by
    rw [l_ref14_Great_1_s, cd, if_neg (by omega)]
    exact ⟨_, rfl⟩
  | k + 1, i, m + 1, n, h1, h2 => by
    obtain ⟨x, hx⟩ := get_at (xs := t3) (i := i) (by omega)
    rw [l_ref14_Great_1_s, cd, if_pos (by omega), cd]
    by_cases h : n ≤ most
    · rw [if_pos h, nth_of hx, ob, w64n (by omega)]
      exact great_loop N most t t2 t3 hm k (i + 1) m _ (by omega) (by omega)
    · rw [if_neg h]
      exact ⟨_, rfl⟩
theorem great_ex (N : Nat) (hN : Fu + 1 ≤ N) (most : Int) (t t2 : List Int) (t3 : List (List Int)) (hm : t3.length ≤ 9223372036854775807) : ∃ b, m_ref14_Great N (t, t2, t3, most) = some b := by
  obtain ⟨N, rfl⟩ : ∃ n, N = n + 1 := ⟨N - 1, by omega⟩
  obtain ⟨r, hr⟩ := great_loop N most t t2 t3 hm t3.length 0 N (IntKind.wrap .i64 ((IntKind.wrap .i64 ((((List.length t) : Nat) : Int) + (((List.length t2) : Nat) : Int))) + (((List.length t3) : Nat) : Int))) (by omega) (by have := Fu_eq; omega)
  rw [m_ref14_Great_eq, show ((0 : Int) = ((0 : Nat) : Int)) from rfl, hr]
  exact ⟨_, rfl⟩
theorem wk_len (hs : List Int) (most : Int) : ∀ (f p : Nat), (wk hs most f p).length ≤ f
  | 0, p => by simp [wk]
  | f + 1, p => by
    rw [wk]
    split
    · have := wk_len hs most f (topOf hs p); simp; omega
    · simp
theorem walkOf_len (t t2 : List Int) (t3 : List (List Int)) (p : Int) : (walkOf t t2 t3 p).length ≤ 1001 := by
  unfold walkOf
  split
  · rename_i h
    obtain ⟨l1, l2, l3⟩ := towerR_len h.1
    have := wk_len t2 (hAt t2 (headN t2)) t2.length p.toNat
    simp; omega
  · simp
theorem levelOf_len (t t2 : List Int) (t3 : List (List Int)) (p : Int) : (levelOf t t2 t3 p).length ≤ 1000 := by
  unfold levelOf
  split
  · rename_i h
    obtain ⟨l1, l2, l3⟩ := towerR_len h
    have := lvOf_len t2 p t2.length
    omega
  · simp
theorem towerAnswers_eq (N : Nat) (hN : Fu + 11 ≤ N) (t t2 : List Int) (t3 : List (List Int)) (u u2 : List Int) (u3 : List (List Int)) (n : Int) (ht : Lens (t, t2, t3)) (hu : Lens (u, u2, u3)) : m_law14_TowerAnswers N (t, t2, t3, u, u2, u3, n) = some true := by
  obtain ⟨N, rfl⟩ : ∃ n, N = n + 1 := ⟨N - 1, by omega⟩
  have ht' := ht
  obtain ⟨h1, h2, h3, h4⟩ := ht
  obtain ⟨k1, k2, k3, k4⟩ := hu
  obtain ⟨b, hb⟩ := great_ex N (by omega) 300 t t2 t3 h3
  obtain ⟨c, hc⟩ := great_ex N (by omega) 300 u u2 u3 k3
  rw [m_law14_TowerAnswers_eq, alive_eq N (by omega), ob]
  simp only [Bool.not_true, cond_false]
  rw [hb, ob]
  cases b with
  | true => rfl
  | false =>
    rw [hc]
    simp only [cond_false, ob]
    cases c with
    | true => rfl
    | false =>
      simp only [cond_false]
      have l1 := walkOf_len t t2 t3 n
      have l2 := levelOf_len t t2 t3 n
      rw [tright_eq N (by omega) t t2 t3 h1 h2, rright_eq N (by omega) t t2 t3 h1 h2, head_eq N (by omega) t t2 t3 h1 h2, rhead_eq N (by omega) t t2 t3 h1 h2, walk_eq N (by omega) t t2 t3 n h1 h2, rwalk_eq N (by omega) t t2 t3 n h1 h2, level_eq N (by omega) t t2 t3 n h1 h2, rlevel_eq N (by omega) t t2 t3 n h1 h2,
        same_eq N (by omega) t t2 t3 u u2 u3 ht', rsame_eq N (by omega) t t2 t3 u u2 u3 ht', same_eq N (by omega) t t2 t3 t t2 t3 ht']
      simp only [ob]
      rw [ints_eq N (by omega) _ _ (by omega), ints_eq N (by omega) _ _ (by omega)]
      simp [ob]
end Go.Proofs.YtmijkdlkhakmiaaDoor
