/- The pool's functions, and the document's: what they compute, told plainly. -/
import Derived.Test.YtiejnblpmfgpbaaFns
import Derived.Test.YtiejnblpmfgpbaaPlain
set_option linter.unusedVariables false
set_option linter.unusedSimpArgs false
namespace Go.Proofs.Ytiejnblpmfgpbaa
open Go Go.RowKit

theorem ints_loop (N : Nat) (a b : List Int) (hl : a.length = b.length) (hm : a.length ≤ 9223372036854775807) : ∀ (k i m : Nat), i + k = a.length → k < m →
    l_ref01_Ints_1 N m (a, b, (i : Int)) = some (if a.drop i = b.drop i then .inl () else .inr false)
  | k, i, 0, h1, h2 => by omega
  | 0, i, m + 1, h1, h2 => by
    rw [l_ref01_Ints_1_s, cd, if_neg (by omega), List.drop_eq_nil_of_le (by omega), List.drop_eq_nil_of_le (by omega), if_pos rfl]
  | k + 1, i, m + 1, h1, h2 => by
    obtain ⟨x, hx⟩ := get_at (xs := a) (i := i) (by omega)
    obtain ⟨y, hy⟩ := get_at (xs := b) (i := i) (by omega)
    rw [l_ref01_Ints_1_s, cd, if_pos (by omega), nth_of hx, ob, nth_of hy, ob, cdn, w64n (by omega), ints_loop N a b hl hm k (i + 1) m (by omega) (by omega), drop_at hx, drop_at hy]
    by_cases h : x = y
    · simp [h]
    · simp [h]
theorem ints_eq (N : Nat) (hN : Fu + 1 ≤ N) (a b : List Int) (hm : a.length ≤ 9223372036854775807) : m_ref01_Ints N (a, b) = some (decide (a = b)) := by
  obtain ⟨N, rfl⟩ : ∃ n, N = n + 1 := ⟨N - 1, by omega⟩
  rw [m_ref01_Ints_eq, cdn]
  by_cases hl : a.length = b.length
  · rw [if_pos (by omega), show ((0 : Int) = ((0 : Nat) : Int)) from rfl, ints_loop N a b hl hm a.length 0 N (by omega) (by have := Fu_eq; omega), ob, List.drop_zero, List.drop_zero]
    by_cases h : a = b <;> simp [h]
  · rw [if_neg (by omega)]
    have : ¬ a = b := fun e => hl (by rw [e])
    simp [this]

/-! the library's -/
theorem min_loop (N : Nat) (xs : List Int) (hm : xs.length ≤ 9223372036854775807) : ∀ (k i m : Nat) (a : Int), i + k = xs.length → k < m →
    l_slices_Min_Lint_int_1 N m (xs, a, (i : Int)) = some ((xs.drop i).foldl (fun a z => if z < a then z else a) a)
  | k, i, 0, a, h1, h2 => by omega
  | 0, i, m + 1, a, h1, h2 => by
    rw [l_slices_Min_Lint_int_1_s, cd, if_neg (by omega), List.drop_eq_nil_of_le (by omega)]; rfl
  | k + 1, i, m + 1, a, h1, h2 => by
    obtain ⟨x, hx⟩ := get_at (xs := xs) (i := i) (by omega)
    rw [l_slices_Min_Lint_int_1_s, cd, if_pos (by omega), nth_of hx, ob, w64n (by omega), min_loop N xs hm k (i + 1) m _ (by omega) (by omega), drop_at hx]; rfl
theorem max_loop (N : Nat) (xs : List Int) (hm : xs.length ≤ 9223372036854775807) : ∀ (k i m : Nat) (a : Int), i + k = xs.length → k < m →
    l_slices_Max_Lint_int_1 N m (xs, a, (i : Int)) = some ((xs.drop i).foldl (fun a z => if z > a then z else a) a)
  | k, i, 0, a, h1, h2 => by omega
  | 0, i, m + 1, a, h1, h2 => by
    rw [l_slices_Max_Lint_int_1_s, cd, if_neg (by omega), List.drop_eq_nil_of_le (by omega)]; rfl
  | k + 1, i, m + 1, a, h1, h2 => by
    obtain ⟨x, hx⟩ := get_at (xs := xs) (i := i) (by omega)
    rw [l_slices_Max_Lint_int_1_s, cd, if_pos (by omega), nth_of hx, ob, w64n (by omega), max_loop N xs hm k (i + 1) m _ (by omega) (by omega), drop_at hx]; rfl
def minL : List Int → Int
  | [] => 0
  | x :: xs => xs.foldl (fun a z => if z < a then z else a) x
def maxL : List Int → Int
  | [] => 0
  | x :: xs => xs.foldl (fun a z => if z > a then z else a) x
theorem min_eq (N : Nat) (hN : Fu + 1 ≤ N) (xs : List Int) (h0 : xs ≠ []) (hm : xs.length ≤ 9223372036854775807) : m_slices_Min_Lint_int N xs = some (minL xs) := by
  obtain ⟨N, rfl⟩ : ∃ n, N = n + 1 := ⟨N - 1, by omega⟩
  cases xs with
  | nil => exact absurd rfl h0
  | cons x xs =>
    rw [m_slices_Min_Lint_int_eq, cd, if_neg (by simp; omega), show ((0 : Int) = ((0 : Nat) : Int)) from rfl, nth_of (x := x) rfl, ob, ob_id, show ((1 : Int) = ((1 : Nat) : Int)) from rfl, min_loop N (x :: xs) hm xs.length 1 N x (by simp; omega) (by have := Fu_eq; simp at hm; omega)]
    rfl
theorem max_eq (N : Nat) (hN : Fu + 1 ≤ N) (xs : List Int) (h0 : xs ≠ []) (hm : xs.length ≤ 9223372036854775807) : m_slices_Max_Lint_int N xs = some (maxL xs) := by
  obtain ⟨N, rfl⟩ : ∃ n, N = n + 1 := ⟨N - 1, by omega⟩
  cases xs with
  | nil => exact absurd rfl h0
  | cons x xs =>
    rw [m_slices_Max_Lint_int_eq, cd, if_neg (by simp; omega), show ((0 : Int) = ((0 : Nat) : Int)) from rfl, nth_of (x := x) rfl, ob, ob_id, show ((1 : Int) = ((1 : Nat) : Int)) from rfl, max_loop N (x :: xs) hm xs.length 1 N x (by simp; omega) (by have := Fu_eq; simp at hm; omega)]
    rfl
theorem minL_lt {xs : List Int} {b : Int} (h0 : xs ≠ []) : minL xs < b ↔ ∃ g ∈ xs, g < b := by
  cases xs with
  | nil => exact absurd rfl h0
  | cons x xs =>
    simp only [minL]
    clear h0
    induction xs generalizing x with
    | nil => simp
    | cons y xs ih =>
      rw [List.foldl_cons, ih]
      simp only [List.mem_cons, exists_eq_or_imp]
      split <;> constructor <;> intro h <;> (rcases h with h | h <;> first | omega | (simp [h]) | (rcases h with h | h <;> first | omega | simp [h]))
theorem maxL_gt {xs : List Int} {b : Int} (h0 : xs ≠ []) : b < maxL xs ↔ ∃ g ∈ xs, b < g := by
  cases xs with
  | nil => exact absurd rfl h0
  | cons x xs =>
    simp only [maxL]
    clear h0
    induction xs generalizing x with
    | nil => simp
    | cons y xs ih =>
      rw [List.foldl_cons, ih]
      simp only [List.mem_cons, exists_eq_or_imp]
      split <;> constructor <;> intro h <;> (rcases h with h | h <;> first | omega | (simp [h]) | (rcases h with h | h <;> first | omega | simp [h]))
theorem clip_eq (N : Nat) (hN : Fu + 1 ≤ N) (xs : List Int) : m_slices_Clip_Lint_int N xs = some xs := by
  obtain ⟨N, rfl⟩ : ∃ n, N = n + 1 := ⟨N - 1, by omega⟩
  rw [m_slices_Clip_Lint_int_eq, subM_all, ob, cd, if_pos rfl]
theorem index_loop (N : Nat) (xs : List Int) (v : Int) (hm : xs.length ≤ 9223372036854775807) : ∀ (k i m : Nat), i + k = xs.length → k < m →
    (v ∈ xs.drop i → ∃ j : Nat, l_slices_Index_Lint_int_1 N m (xs, v, ((xs.length : Nat) : Int), (i : Int)) = some (.inr (j : Int))) ∧ (v ∉ xs.drop i → l_slices_Index_Lint_int_1 N m (xs, v, ((xs.length : Nat) : Int), (i : Int)) = some (.inl ()))
  | k, i, 0, h1, h2 => by omega
  | 0, i, m + 1, h1, h2 => by
    rw [l_slices_Index_Lint_int_1_s, cd, if_neg (by omega), List.drop_eq_nil_of_le (by omega)]; simp
  | k + 1, i, m + 1, h1, h2 => by
    obtain ⟨x, hx⟩ := get_at (xs := xs) (i := i) (by omega)
    have ih := index_loop N xs v hm k (i + 1) m (by omega) (by omega)
    rw [l_slices_Index_Lint_int_1_s, cd, if_pos (by omega), nth_of hx, ob, cd, w64n (by omega), drop_at hx]
    by_cases h : v = x
    · rw [if_pos h]
      exact ⟨fun _ => ⟨i, rfl⟩, fun hn => absurd (by simp [h]) hn⟩
    · rw [if_neg h]
      simp only [List.mem_cons, h, false_or]
      exact ih
theorem contains_eq (N : Nat) (hN : Fu + 2 ≤ N) (xs : List Int) (v : Int) (hm : xs.length ≤ 9223372036854775807) : m_slices_Contains_Lint_int N (xs, v) = some (decide (v ∈ xs)) := by
  obtain ⟨N, rfl⟩ : ∃ n, N = n + 2 := ⟨N - 2, by omega⟩
  rw [m_slices_Contains_Lint_int_eq, m_slices_Index_Lint_int_eq]
  obtain ⟨h1, h2⟩ := index_loop N xs v hm xs.length 0 N (by omega) (by have := Fu_eq; omega)
  rw [List.drop_zero] at h1 h2
  by_cases h : v ∈ xs
  · obtain ⟨j, hj⟩ := h1 h
    rw [show ((0 : Int) = ((0 : Nat) : Int)) from rfl, hj]
    simp [ob, h]
  · rw [show ((0 : Int) = ((0 : Nat) : Int)) from rfl, h2 h]
    simp [ob, h]

/-! a pool that may be -/
def FreeR (n : Nat) (free : List Int) : Prop := (∀ f ∈ free, 0 ≤ f ∧ f < n) ∧ free.Nodup
def GensR (gens : List Int) : Prop := gens ≠ [] ∧ gens.length ≤ 1000 ∧ ∀ g ∈ gens, 0 ≤ g ∧ g ≤ 1073741824
instance (n : Nat) (free : List Int) : Decidable (FreeR n free) := by unfold FreeR; exact inferInstance
instance (gens : List Int) : Decidable (GensR gens) := by unfold GensR; exact inferInstance
def rightB (gens free : List Int) : Bool := decide (GensR gens ∧ FreeR gens.length free)
def onesM (l : List Int) : List (Int × Int) := l.map fun c => (c, 1)
theorem ones_get : ∀ (l : List Int) (c : Int), mget (.i .i64) (onesM l) c = if c ∈ l then some 1 else none
  | [], c => rfl
  | x :: l, c => by
    have e1 : onesM (x :: l) = (x, 1) :: onesM l := rfl
    rw [e1, mget]
    by_cases h : x = c
    · subst h; simp [eqV]
    · have h2 : ¬ c = x := fun hh => h hh.symm
      have h3 : eqV (.i .i64) x c = false := by simp [eqV, h]
      simp only [h3, cond_false, ones_get l c]
      simp [h2]
theorem ones_put : ∀ (l : List Int) (c : Int), c ∉ l → mput (.i .i64) (onesM l) c 1 = onesM (l ++ [c])
  | [], c, _ => rfl
  | x :: l, c, h => by
    have h1 : ¬ x = c := fun e => h (by simp [e])
    have e1 : onesM (x :: l) = (x, 1) :: onesM l := rfl
    have h3 : eqV (.i .i64) x c = false := by simp [eqV, h1]
    rw [e1, mput]
    simp only [h3, cond_false, ones_put l c (fun e => h (by simp [e]))]
    rfl
theorem put_get : ∀ (es : List (Int × Int)) (c v : Int), mget (.i .i64) (mput (.i .i64) es c v) c = some v
  | [], c, v => by simp [mput, mget, eqV]
  | (x, y) :: es, c, v => by
    rw [mput]
    by_cases h : x = c
    · subst h; simp [eqV, mget]
    · have h3 : eqV (.i .i64) x c = false := by simp [eqV, h]
      simp only [h3, cond_false, mget, put_get es c v]
theorem freeR_take {n : Nat} {free : List Int} (i : Nat) (h : FreeR n free) : FreeR n (free.take i) :=
  ⟨fun f hf => h.1 f (List.mem_of_mem_take hf), (List.take_sublist i free).nodup h.2⟩
theorem freeR_next {n i : Nat} {free : List Int} {y : Int} (h : FreeR n (free.take i)) (hy : free[i]? = some y) (h0 : 0 ≤ y) (h1 : y < n) (hn : y ∉ free.take i) : FreeR n (free.take (i + 1)) := by
  rw [take_at hy]
  refine ⟨fun f hf => ?_, ?_⟩
  · rcases List.mem_append.1 hf with hf | hf
    · exact h.1 f hf
    · simp at hf; subst hf; exact ⟨h0, h1⟩
  · rw [List.nodup_append]
    refine ⟨h.2, by simp, fun a ha b hb => ?_⟩
    simp at hb; subst hb
    rintro rfl; exact hn ha
theorem freeR_not {n i : Nat} {free : List Int} {y : Int} (hy : free[i]? = some y) (h : y < 0 ∨ (n : Int) ≤ y ∨ y ∈ free.take i) : ¬ FreeR n free := by
  intro hf
  have hm : y ∈ free := List.mem_of_getElem? hy
  have := hf.1 y hm
  rcases h with h | h | h
  · omega
  · omega
  · have h2 := (freeR_take (i + 1) hf).2
    rw [take_at hy, List.nodup_append] at h2
    exact h2.2.2 y h y (by simp) rfl
theorem right_loop (N n : Nat) (free : List Int) (hm : free.length ≤ 9223372036854775807) : ∀ (k i m : Nat), i + k = free.length → k < m → FreeR n (free.take i) →
    l_pool_Right_1 N m ((n : Int), free, ((free.length : Nat) : Int), (i : Int), onesM (free.take i)) = some (if FreeR n free then .inl () else .inr false)
  | k, i, 0, h1, h2, hf => by omega
  | 0, i, m + 1, h1, h2, hf => by
    rw [l_pool_Right_1_s, cd, if_neg (by omega)]
    rw [List.take_of_length_le (by omega)] at hf
    rw [if_pos hf]
  | k + 1, i, m + 1, h1, h2, hf => by
    obtain ⟨x, hx⟩ := get_at (xs := free) (i := i) (by omega)
    rw [l_pool_Right_1_s, cd, if_pos (by omega), nth_of hx, ob, cd]
    by_cases c1 : x < 0
    · rw [if_pos c1, if_neg (freeR_not hx (.inl c1))]
    rw [if_neg c1, cd]
    by_cases c2 : (n : Int) ≤ x
    · rw [if_pos c2, if_neg (freeR_not hx (.inr (.inl c2)))]
    rw [if_neg c2, cd, put_get, ones_get]
    by_cases c3 : x ∈ free.take i
    · rw [if_pos c3, if_neg (freeR_not hx (.inr (.inr c3)))]
      simp [w64]
    · rw [if_neg c3]
      have e1 : IntKind.wrap .i64 ((Option.getD (none : Option Int) 0) + 1) = 1 := by rw [w64] <;> simp
      rw [e1]
      simp only [Option.getD_some, Int.lt_irrefl, if_false]
      rw [ones_put _ _ c3, ← take_at hx, w64n (by omega)]
      exact right_loop N n free hm k (i + 1) m (by omega) (by omega) (freeR_next hf hx (by omega) (by omega) c3)
theorem right_eq (N : Nat) (hN : Fu + 2 ≤ N) (gens free : List Int) (hg : gens.length ≤ 9223372036854775807) (hm : free.length ≤ 9223372036854775807) : m_pool_Right N (gens, free) = some (rightB gens free) := by
  obtain ⟨N, rfl⟩ : ∃ n, N = n + 1 := ⟨N - 1, by omega⟩
  rw [m_pool_Right_eq, cd]
  unfold rightB
  by_cases c0 : gens = []
  · subst c0; simp [GensR]
  have c0' : ¬ gens.length = 0 := fun e => c0 (List.length_eq_zero_iff.1 e)
  rw [if_neg (by omega), cd]
  by_cases c1 : 1000 < gens.length
  · rw [if_pos (by omega)]
    have : ¬ GensR gens := fun h => by have := h.2.1; omega
    simp [this]
  rw [if_neg (by omega), min_eq N (by omega) gens c0 hg, ob, cd]
  by_cases c2 : minL gens < 0
  · rw [if_pos c2]
    obtain ⟨g, hg1, hg2⟩ := (minL_lt c0).1 c2
    have : ¬ GensR gens := fun h => by have := h.2.2 g hg1; omega
    simp [this]
  rw [if_neg c2, max_eq N (by omega) gens c0 hg, ob, cd]
  by_cases c3 : 1073741824 < maxL gens
  · rw [if_pos c3]
    obtain ⟨g, hg1, hg2⟩ := (maxL_gt c0).1 c3
    have : ¬ GensR gens := fun h => by have := h.2.2 g hg1; omega
    simp [this]
  rw [if_neg c3]
  have hG : GensR gens := ⟨c0, by omega, fun g hg => ⟨Int.not_lt.1 fun h => c2 ((minL_lt c0).2 ⟨g, hg, h⟩), Int.not_lt.1 fun h => c3 ((maxL_gt c0).2 ⟨g, hg, h⟩)⟩⟩
  have := right_loop N gens.length free hm free.length 0 N (by omega) (by have := Fu_eq; omega) (by simp [FreeR])
  rw [show onesM (List.take 0 free) = [] from rfl, show (((0 : Nat) : Int) = 0) from rfl] at this
  rw [this, ob]
  by_cases hF : FreeR gens.length free <;> simp [hF, hG]
end Go.Proofs.Ytiejnblpmfgpbaa
