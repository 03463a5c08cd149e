/- The fixed fact. -/
import Derived.Test.YtiblkkkgajklfaaSumG
set_option linter.unusedVariables false
set_option linter.unusedSimpArgs false
namespace Go.Proofs.Ytiblkkkgajklfaa
open Go Go.RowKit

theorem alive_g1 : buildOf [5, 6, 7, 8] [1, 3, 1, 2] = (0, [5, 6, 7, 8], [1, 3, 1, 2], [[1], [2, 3, 1], [3], [0, 1]]) := by decide +kernel
theorem alive_g2 : sumOf [5, 6, 7, 8] [1, 3, 1, 2] [[1], [2, 3, 1], [3], [0, 1]] [1, 2, 3, 4] = (0, [[1], [2, 5, 10], [3], [4, 5]]) := by decide +kernel
theorem alive_g3 : totalOf [5, 6, 7, 8] [1, 3, 1, 2] [[1], [2, 3, 1], [3], [0, 1]] [[1], [2, 5, 10], [3], [4, 5]] = (10, 0) := by decide +kernel
theorem alive_g4 : betweenOf [5, 6, 7, 8] [1, 3, 1, 2] [[1], [2, 3, 1], [3], [0, 1]] [[1], [2, 5, 10], [3], [4, 5]] 1 0 = (9, 2, 0) := by decide +kernel
theorem alive_g5 : changeOf [5, 6, 7, 8] [1, 3, 1, 2] [[1], [2, 3, 1], [3], [0, 1]] [[1], [2, 5, 10], [3], [4, 5]] [2] [10] = (3, 0, [[1], [2, 12, 17], [10], [4, 5]]) := by decide +kernel
theorem alive_g6 : betweenOf [5, 6, 7, 8] [1, 3, 1, 2] [[1], [2, 3, 1], [3], [0, 1]] [[1], [2, 5, 10], [3], [4, 5]] 0 4 = (0, 0, 6) := by decide +kernel
theorem alive_g7 : sumOf [5, 6, 7, 8] [1, 3, 1, 2] [[1], [2, 3, 1], [3], [0, 1]] [1] = (1, []) := by decide +kernel
theorem alive_g8 : weightsOf [5, 6, 7, 8] [1, 3, 1, 2] [[1], [2, 3, 1], [3], [0, 1]] [[1], [2, 12, 17], [10], [4, 5]] = [1, 2, 10, 4] := by decide +kernel
theorem alive_k1 (N : Nat) (hN : Fu + 10 ≤ N) : m_ref14_Build N ([5, 6, 7, 8], [1, 3, 1, 2]) = some (0, [5, 6, 7, 8], [1, 3, 1, 2], [[1], [2, 3, 1], [3], [0, 1]]) := by
  rw [rbuild_eq N (by omega) _ _ (by simp) (by simp), alive_g1]
theorem alive_k2 (N : Nat) (hN : Fu + 10 ≤ N) : m_sum_Build_o N ([5, 6, 7, 8], [1, 3, 1, 2], [[1], [2, 3, 1], [3], [0, 1]], [1, 2, 3, 4]) = some (0, [[1], [2, 5, 10], [3], [4, 5]], [1, 2, 3, 4]) := by
  rw [sbuild_o_eq N (by omega) _ _ _ _ (by simp) (by simp) (by simp), alive_g2]
theorem alive_k3 (N : Nat) (hN : Fu + 10 ≤ N) : m_sum_Total N ([5, 6, 7, 8], [1, 3, 1, 2], [[1], [2, 3, 1], [3], [0, 1]], [[1], [2, 5, 10], [3], [4, 5]]) = some (10, 0) := by
  rw [total_eq N (by omega) _ _ _ _ (by simp) (by simp) (by simp), alive_g3]
theorem alive_k4 (N : Nat) (hN : Fu + 10 ≤ N) : m_sum_Between N ([5, 6, 7, 8], [1, 3, 1, 2], [[1], [2, 3, 1], [3], [0, 1]], [[1], [2, 5, 10], [3], [4, 5]], 1, 0) = some (9, 2, 0) := by
  rw [between_eq N (by omega) _ _ _ _ _ _ (by simp) (by simp) (by simp), alive_g4]
theorem alive_k5 (N : Nat) (hN : Fu + 10 ≤ N) : m_sum_Change N ([5, 6, 7, 8], [1, 3, 1, 2], [[1], [2, 3, 1], [3], [0, 1]], [[1], [2, 5, 10], [3], [4, 5]], [2], [10]) = some (3, 0, [[1], [2, 12, 17], [10], [4, 5]]) := by
  rw [change_eq N (by omega) _ _ _ _ _ _ (by simp) (by simp) (by simp) (by simp) (by simp), alive_g5]
theorem alive_k6 (N : Nat) (hN : Fu + 10 ≤ N) : m_sum_Between N ([5, 6, 7, 8], [1, 3, 1, 2], [[1], [2, 3, 1], [3], [0, 1]], [[1], [2, 5, 10], [3], [4, 5]], 0, 4) = some (0, 0, 6) := by
  rw [between_eq N (by omega) _ _ _ _ _ _ (by simp) (by simp) (by simp), alive_g6]
theorem alive_k7 (N : Nat) (hN : Fu + 10 ≤ N) : m_sum_Build_o N ([5, 6, 7, 8], [1, 3, 1, 2], [[1], [2, 3, 1], [3], [0, 1]], [1]) = some (1, [], [1]) := by
  rw [sbuild_o_eq N (by omega) _ _ _ _ (by simp) (by simp) (by simp), alive_g7]
theorem alive_k8 (N : Nat) (hN : Fu + 10 ≤ N) : m_sum_Weights N ([5, 6, 7, 8], [1, 3, 1, 2], [[1], [2, 3, 1], [3], [0, 1]], [[1], [2, 12, 17], [10], [4, 5]]) = some [1, 2, 10, 4] := by
  rw [weights_eq N (by omega) _ _ _ _ (by simp) (by simp) (by simp), alive_g8]
theorem ints_self (N : Nat) (hN : Fu + 1 ≤ N) (a : List Int) (h : a.length ≤ 100) : m_ref01_Ints N (a, a) = some true := by
  rw [ints_eq N hN a a (by omega)]; simp
theorem alive_eq (N : Nat) (hN : Fu + 11 ≤ N) : m_law16_alive N () = some true := by
  obtain ⟨N, rfl⟩ : ∃ n, N = n + 1 := ⟨N - 1, by omega⟩
  rw [m_law16_alive_eq, alive_k1 N (by omega), ob]
  simp only
  rw [alive_k2 N (by omega), ob, alive_k7 N (by omega)]
  simp only
  rw [alive_k3 N (by omega), ob, alive_k4 N (by omega), ob, alive_k5 N (by omega), ob, alive_k6 N (by omega), ob, ob]
  simp only [nthI, ob]
  have i1 := ints_self N (by omega) [2, 5, 10] (by simp)
  have i2 := ints_self N (by omega) [4, 5] (by simp)
  have i3 := ints_self N (by omega) [2, 12, 17] (by simp)
  have i4 := ints_self N (by omega) [1, 2, 10, 4] (by simp)
  have k8 := alive_k8 N (by omega)
  simp [ob, i1, i2, i3, i4, k8]
end Go.Proofs.Ytiblkkkgajklfaa
