/- Equal lists, copies of lists: what the library's functions compute, told plainly. -/
import Derived.Test.YtggnolfcgaglfaaAo1
set_option linter.unusedVariables false
set_option linter.unusedSimpArgs false
namespace Go.Proofs.Ytggnolfcgaglfaa
open Go Go.RowKit
theorem equal_loop (N : Nat) (a b : List Int) (hl : a.length = b.length) (hm : a.length ≤ 9223372036854775807) : ∀ (k i m : Nat), i + k = a.length → k < m →
    l_slices_Equal_Lint_int_1 N m (a, b, ((a.length : Nat) : Int), (i : Int)) = some (if a.drop i = b.drop i then .inl () else .inr false)
  | k, i, 0, h1, h2 => by omega
  | 0, i, m + 1, h1, h2 => by
    rw [l_slices_Equal_Lint_int_1_s, cd, if_neg (by omega), List.drop_eq_nil_of_le (by omega), List.drop_eq_nil_of_le (by omega), if_pos rfl]
  | k + 1, i, m + 1, h1, h2 => by
    obtain ⟨x, hx⟩ := get_at (xs := a) (i := i) (by omega)
    obtain ⟨y, hy⟩ := get_at (xs := b) (i := i) (by omega)
    rw [l_slices_Equal_Lint_int_1_s, cd, if_pos (by omega), nth_of hx, ob, nth_of hy, ob, cdn, w64n (by omega), equal_loop N a b hl hm k (i + 1) m (by omega) (by omega), drop_at hx, drop_at hy]
    by_cases h : x = y
    · simp [h]
    · simp [h]
theorem equal_eq (N : Nat) (hN : Fu + 1 ≤ N) (a b : List Int) (hm : a.length ≤ 9223372036854775807) : m_slices_Equal_Lint_int N (a, b) = some (decide (a = b)) := by
  obtain ⟨N, rfl⟩ : ∃ n, N = n + 1 := ⟨N - 1, by omega⟩
  rw [m_slices_Equal_Lint_int_eq, cdn]
  by_cases hl : a.length = b.length
  · rw [if_pos (by omega), show ((0 : Int) = ((0 : Nat) : Int)) from rfl, equal_loop N a b hl hm a.length 0 N (by omega) (by have := Fu_eq; omega), ob, List.drop_zero, List.drop_zero]
    by_cases h : a = b <;> simp [h]
  · rw [if_neg (by omega)]
    have : ¬ a = b := fun e => hl (by rw [e])
    simp [this]
theorem clone_eq (N : Nat) (hN : Fu + 1 ≤ N) (a : List Int) (hm : a.length ≤ 100000000000) : m_slices_Clone_Lint_int N a = some a := by
  obtain ⟨N, rfl⟩ : ∃ n, N = n + 1 := ⟨N - 1, by omega⟩
  rw [m_slices_Clone_Lint_int_eq, app_of (by omega) (by simpa using hm), List.nil_append]
  cases a with
  | nil => exact dem_iff.2 ⟨rfl, rfl⟩
  | cons x xs => rfl
end Go.Proofs.Ytggnolfcgaglfaa
