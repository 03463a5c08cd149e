/- Rings that may be, equal lists: what the program's functions and the document's compute, told plainly. -/
import Derived.Test.YtggnolfcgaglfaaFns
import Derived.Test.YtggnolfcgaglfaaPlain
set_option linter.unusedVariables false
set_option linter.unusedSimpArgs false
namespace Go.Proofs.Ytggnolfcgaglfaa
open Go Go.RowKit

/-! maps of whole numbers -/
theorem get_put : ∀ (es : List (Int × Int)) (c d v : Int), mget (.i .i64) (mput (.i .i64) es c v) d = if c = d then some v else mget (.i .i64) es d
  | [], c, d, v => by
    by_cases h : c = d
    · subst h; simp [mput, mget, eqV]
    · have h3 : eqV (.i .i64) c d = false := by simp [eqV, h]
      simp [mput, mget, h3, h]
  | (x, y) :: es, c, d, v => by
    rw [mput]
    by_cases h : x = c
    · subst h
      by_cases h2 : x = d
      · subst h2; simp [eqV, mget]
      · have h3 : eqV (.i .i64) x d = false := by simp [eqV, h2]
        have h4 : eqV (.i .i64) x x = true := by simp [eqV]
        simp [mget, h3, h4, h2]
    · have h3 : eqV (.i .i64) x c = false := by simp [eqV, h]
      simp only [h3, cond_false, mget]
      by_cases h2 : x = d
      · subst h2
        have h4 : eqV (.i .i64) x x = true := by simp [eqV]
        rw [h4, if_neg (fun e => h e.symm)]
        rfl
      · have h4 : eqV (.i .i64) x d = false := by simp [eqV, h2]
        rw [h4]
        simp only [cond_false]
        exact get_put es c d v
theorem put_len : ∀ (es : List (Int × Int)) (c v : Int), (mput (.i .i64) es c v).length = es.length + if (mget (.i .i64) es c).isSome then 0 else 1
  | [], c, v => by simp [mput, mget]
  | (x, y) :: es, c, v => by
    rw [mput, mget]
    by_cases h : x = c
    · subst h
      have h4 : eqV (.i .i64) x x = true := by simp [eqV]
      simp [h4]
    · have h3 : eqV (.i .i64) x c = false := by simp [eqV, h]
      simp only [h3, cond_false, List.length_cons, put_len es c v]
      omega

/-! lists, equal -/
theorem ints_loop (N : Nat) (a b : List Int) (hl : a.length = b.length) (hm : a.length ≤ 9223372036854775807) : ∀ (k i m : Nat), i + k = a.length → k < m →
    l_ref01_Ints_1 N m (a, b, (i : Int)) = some (if a.drop i = b.drop i then .inl () else .inr false)
  | k, i, 0, h1, h2 => by omega
  | 0, i, m + 1, h1, h2 => by
    rw [l_ref01_Ints_1_s, cd, if_neg (by omega), List.drop_eq_nil_of_le (by omega), List.drop_eq_nil_of_le (by omega), if_pos rfl]
  | k + 1, i, m + 1, h1, h2 => by
    obtain ⟨x, hx⟩ := get_at (xs := a) (i := i) (by omega)
    obtain ⟨y, hy⟩ := get_at (xs := b) (i := i) (by omega)
    rw [l_ref01_Ints_1_s, cd, if_pos (by omega), nth_of hx, ob, nth_of hy, ob, cdn, w64n (by omega), ints_loop N a b hl hm k (i + 1) m (by omega) (by omega), drop_at hx, drop_at hy]
    by_cases h : x = y
    · simp [h]
    · simp [h]
theorem ints_eq (N : Nat) (hN : Fu + 1 ≤ N) (a b : List Int) (hm : a.length ≤ 9223372036854775807) : m_ref01_Ints N (a, b) = some (decide (a = b)) := by
  obtain ⟨N, rfl⟩ : ∃ n, N = n + 1 := ⟨N - 1, by omega⟩
  rw [m_ref01_Ints_eq, cdn]
  by_cases hl : a.length = b.length
  · rw [if_pos (by omega), show ((0 : Int) = ((0 : Nat) : Int)) from rfl, ints_loop N a b hl hm a.length 0 N (by omega) (by have := Fu_eq; omega), ob, List.drop_zero, List.drop_zero]
    by_cases h : a = b <;> simp [h]
  · rw [if_neg (by omega)]
    have : ¬ a = b := fun e => hl (by rw [e])
    simp [this]
/-! rings that may be -/
def TokR (l : List Int) : Prop := ∀ t ∈ l, 0 ≤ t ∧ t ≤ 10000
def RingR (l : List Int) : Prop := l.length ≤ 1000 ∧ TokR l ∧ l.Nodup
instance (l : List Int) : Decidable (TokR l) := by unfold TokR; exact inferInstance
instance (l : List Int) : Decidable (RingR l) := by unfold RingR; exact inferInstance
theorem tok_odd (N : Nat) (hN : Fu ≤ N) (t : Int) : m_ring_RightF1 N t = some (decide (¬ (0 ≤ t ∧ t ≤ 10000))) := by
  obtain ⟨N, rfl⟩ : ∃ n, N = n + 1 := ⟨N - 1, by have := Fu_eq; omega⟩
  rw [m_ring_RightF1_eq, cd]
  by_cases h : t < 0
  · rw [if_pos h]
    have : ¬ (0 ≤ t ∧ t ≤ 10000) := by omega
    simp [this]
  · rw [if_neg h]
    congr 1
    simp only [decide_eq_decide]
    omega
theorem tokf_loop (N : Nat) (hN : Fu ≤ N) (l : List Int) (hm : l.length ≤ 9223372036854775807) : ∀ (k i m : Nat), i + k = l.length → k < m →
    ∃ j : Nat, l_slices_IndexFunc_Lint_int_ring_RightF1_1 N m (l, ((l.length : Nat) : Int), (i : Int)) = some (if TokR (l.drop i) then .inl () else .inr (j : Int))
  | k, i, 0, h1, h2 => by omega
  | 0, i, m + 1, h1, h2 => by
    refine ⟨0, ?_⟩
    rw [l_slices_IndexFunc_Lint_int_ring_RightF1_1_s, cd, if_neg (by omega), List.drop_eq_nil_of_le (by omega), if_pos (by intro t h; cases h)]
  | k + 1, i, m + 1, h1, h2 => by
    obtain ⟨x, hx⟩ := get_at (xs := l) (i := i) (by omega)
    obtain ⟨j, ih⟩ := tokf_loop N hN l hm k (i + 1) m (by omega) (by omega)
    rw [l_slices_IndexFunc_Lint_int_ring_RightF1_1_s, cd, if_pos (by omega), nth_of hx, ob, tok_odd N hN x, ob, cd, w64n (by omega), ih, drop_at hx]
    by_cases h : 0 ≤ x ∧ x ≤ 10000
    · refine ⟨j, ?_⟩
      rw [if_neg (fun e => e h)]
      have : TokR (x :: l.drop (i + 1)) ↔ TokR (l.drop (i + 1)) := ⟨fun e t ht => e t (by simp [ht]), fun e t ht => by
        rcases List.mem_cons.1 ht with rfl | ht
        · exact h
        · exact e t ht⟩
      by_cases h3 : TokR (l.drop (i + 1))
      · rw [if_pos h3, if_pos (this.2 h3)]
      · rw [if_neg h3, if_neg (fun e => h3 (this.1 e))]
    · refine ⟨i, ?_⟩
      rw [if_pos h, if_neg (fun e => h (e x (by simp)))]
theorem tokf_eq (N : Nat) (hN : Fu + 2 ≤ N) (l : List Int) (hm : l.length ≤ 9223372036854775807) : m_slices_ContainsFunc_Lint_int_ring_RightF1 N l = some (!decide (TokR l)) := by
  obtain ⟨N, rfl⟩ : ∃ n, N = n + 2 := ⟨N - 2, by omega⟩
  rw [m_slices_ContainsFunc_Lint_int_ring_RightF1_eq, m_slices_IndexFunc_Lint_int_ring_RightF1_eq]
  obtain ⟨j, h⟩ := tokf_loop N (by omega) l hm l.length 0 N (by omega) (by have := Fu_eq; omega)
  rw [show ((0 : Int) = ((0 : Nat) : Int)) from rfl, h, List.drop_zero]
  by_cases hT : TokR l <;> simp [ob, hT]
/-- what is met, counted -/
structure Met (l : List Int) (met : List (Int × Int)) : Prop where
  mem : ∀ c, (mget (.i .i64) met c).isSome = decide (c ∈ l)
  le : met.length ≤ l.length
  eq : met.length = l.length ↔ l.Nodup
theorem met_nil : Met [] [] := ⟨fun c => rfl, by simp, by simp⟩
theorem met_put {l : List Int} {met : List (Int × Int)} (h : Met l met) (x v : Int) : Met (l ++ [x]) (mput (.i .i64) met x v) := by
  refine ⟨fun c => ?_, ?_, ?_⟩
  · rw [get_put]
    by_cases hc : x = c
    · subst hc; simp
    · rw [if_neg hc, h.mem c]
      have hc' : ¬ c = x := fun e => hc e.symm
      simp [hc']
  · rw [put_len]
    have := h.le
    simp only [List.length_append, List.length_singleton]
    split <;> omega
  · rw [put_len, h.mem x]
    have h1 := h.le
    have h2 := h.eq
    simp only [List.length_append, List.length_singleton]
    by_cases hx : x ∈ l
    · simp only [hx, decide_true, if_true]
      constructor
      · intro e; omega
      · intro e
        rw [List.nodup_append] at e
        exact absurd rfl (e.2.2 x hx x (by simp))
    · simp only [hx, decide_false, Bool.false_eq_true, if_false]
      constructor
      · intro e
        rw [List.nodup_append]
        refine ⟨h2.1 (by omega), by simp, fun a ha b hb => ?_⟩
        simp at hb; subst hb
        rintro rfl; exact hx ha
      · intro e
        rw [List.nodup_append] at e
        have := h2.2 e.1
        omega
theorem once_loop (N : Nat) (l l0 : List Int) (hm : l.length ≤ 9223372036854775807) : ∀ (k i m : Nat) (met : List (Int × Int)), i + k = l.length → k < m → Met (l.take i) met →
    ∃ met', l_ring_once_int_1 N m (l0, l, ((l.length : Nat) : Int), (i : Int), met) = some (l0, met') ∧ Met l met'
  | k, i, 0, met, h1, h2, hM => by omega
  | 0, i, m + 1, met, h1, h2, hM => by
    rw [l_ring_once_int_1_s, cd, if_neg (by omega)]
    rw [List.take_of_length_le (by omega)] at hM
    exact ⟨met, rfl, hM⟩
  | k + 1, i, m + 1, met, h1, h2, hM => by
    obtain ⟨x, hx⟩ := get_at (xs := l) (i := i) (by omega)
    rw [l_ring_once_int_1_s, cd, if_pos (by omega), nth_of hx, ob, w64n (by omega)]
    refine once_loop N l l0 hm k (i + 1) m _ (by omega) (by omega) ?_
    rw [take_at hx]
    exact met_put hM x _
theorem once_eq (N : Nat) (hN : Fu + 1 ≤ N) (l : List Int) (hm : l.length ≤ 9223372036854775807) : m_ring_once_int N l = some (decide l.Nodup) := by
  obtain ⟨N, rfl⟩ : ∃ n, N = n + 1 := ⟨N - 1, by omega⟩
  obtain ⟨met, h1, h2⟩ := once_loop N l l hm l.length 0 N [] (by omega) (by have := Fu_eq; omega) met_nil
  rw [m_ring_once_int_eq, show ((0 : Int) = ((0 : Nat) : Int)) from rfl, h1, ob]
  congr 1
  rw [decide_eq_decide]
  have := h2.eq
  constructor
  · intro e; simp only at e; exact this.1 (by omega)
  · intro e; have := this.2 e; simp only; omega
theorem ring_eq (N : Nat) (hN : Fu + 3 ≤ N) (l : List Int) (hm : l.length ≤ 9223372036854775807) : m_ring_Right N l = some (decide (RingR l)) := by
  obtain ⟨N, rfl⟩ : ∃ n, N = n + 1 := ⟨N - 1, by omega⟩
  rw [m_ring_Right_eq, cd]
  by_cases h1 : 1000 < l.length
  · rw [if_pos (by omega)]
    have : ¬ RingR l := fun h => by have := h.1; omega
    simp [this]
  rw [if_neg (by omega), tokf_eq N (by omega) l hm, ob, once_eq N (by omega) l hm]
  by_cases h2 : TokR l
  · by_cases h3 : l.Nodup
    · have : RingR l := ⟨by omega, h2, h3⟩
      simp [h2, h3, this, ob]
    · have : ¬ RingR l := fun h => h3 h.2.2
      simp [h2, h3, this, ob]
  · have : ¬ RingR l := fun h => h2 h.2.1
    simp [h2, this, ob]
theorem place_loop (N : Nat) (xs : List Int) (v : Int) (hm : xs.length ≤ 9223372036854775807) : ∀ (k i m : Nat), i + k = xs.length → k < m →
    (v ∈ xs.drop i → ∃ j : Nat, l_ref13_Place_1 N m (xs, v, (i : Int)) = some (.inr (j : Int))) ∧ (v ∉ xs.drop i → l_ref13_Place_1 N m (xs, v, (i : Int)) = some (.inl ()))
  | k, i, 0, h1, h2 => by omega
  | 0, i, m + 1, h1, h2 => by
    rw [l_ref13_Place_1_s, cd, if_neg (by omega), List.drop_eq_nil_of_le (by omega)]; simp
  | k + 1, i, m + 1, h1, h2 => by
    obtain ⟨x, hx⟩ := get_at (xs := xs) (i := i) (by omega)
    have ih := place_loop N xs v hm k (i + 1) m (by omega) (by omega)
    rw [l_ref13_Place_1_s, cd, if_pos (by omega), nth_of hx, ob, cd, w64n (by omega), drop_at hx]
    by_cases h : x = v
    · rw [if_pos h]
      exact ⟨fun _ => ⟨i, rfl⟩, fun hn => absurd (by simp [h]) hn⟩
    · rw [if_neg h]
      have h' : ¬ v = x := fun e => h e.symm
      simp only [List.mem_cons, h', false_or]
      exact ih
theorem place_sign (N : Nat) (hN : Fu + 1 ≤ N) (xs : List Int) (v : Int) (hm : xs.length ≤ 9223372036854775807) : ∃ r : Int, m_ref13_Place N (xs, v) = some r ∧ (0 ≤ r ↔ v ∈ xs) := by
  obtain ⟨N, rfl⟩ : ∃ n, N = n + 1 := ⟨N - 1, by omega⟩
  obtain ⟨h1, h2⟩ := place_loop N xs v hm xs.length 0 N (by omega) (by have := Fu_eq; omega)
  rw [List.drop_zero] at h1 h2
  rw [m_ref13_Place_eq, show ((0 : Int) = ((0 : Nat) : Int)) from rfl]
  by_cases h : v ∈ xs
  · obtain ⟨j, hj⟩ := h1 h
    rw [hj]
    exact ⟨j, rfl, by simp [h]⟩
  · rw [h2 h]
    exact ⟨-1, rfl, by simp [h]⟩
def TokN (l : List Int) : Prop := TokR l ∧ l.Nodup
instance (l : List Int) : Decidable (TokN l) := by unfold TokN; exact inferInstance
theorem tokN_not {l : List Int} {i : Nat} {y : Int} (hy : l[i]? = some y) (h : y < 0 ∨ 10000 < y ∨ y ∈ l.take i) : ¬ TokN l := by
  intro hf
  have := hf.1 y (List.mem_of_getElem? hy)
  rcases h with h | h | h
  · omega
  · omega
  · have h2 := (List.take_sublist (i + 1) l).nodup hf.2
    rw [take_at hy, List.nodup_append] at h2
    exact h2.2.2 y h y (by simp) rfl
theorem tokN_next {l : List Int} {i : Nat} {y : Int} (hf : TokN (l.take i)) (hy : l[i]? = some y) (h0 : 0 ≤ y) (h1 : y ≤ 10000) (hn : y ∉ l.take i) : TokN (l.take (i + 1)) := by
  rw [take_at hy]
  refine ⟨fun f hf' => ?_, ?_⟩
  · rcases List.mem_append.1 hf' with h | h
    · exact hf.1 f h
    · simp at h; subst h; exact ⟨h0, h1⟩
  · rw [List.nodup_append]
    refine ⟨hf.2, by simp, fun a ha b hb => ?_⟩
    simp at hb; subst hb
    rintro rfl; exact hn ha
theorem rring_loop (N : Nat) (hN : Fu + 1 ≤ N) (l : List Int) (hm : l.length ≤ 9223372036854775807) : ∀ (k i m : Nat), i + k = l.length → k < m → TokN (l.take i) →
    l_ref13_Right_1 N m (l, (i : Int)) = some (if TokN l then .inl () else .inr false)
  | k, i, 0, h1, h2, hf => by omega
  | 0, i, m + 1, h1, h2, hf => by
    rw [l_ref13_Right_1_s, cd, if_neg (by omega)]
    rw [List.take_of_length_le (by omega)] at hf
    rw [if_pos hf]
  | k + 1, i, m + 1, h1, h2, hf => by
    obtain ⟨x, hx⟩ := get_at (xs := l) (i := i) (by omega)
    rw [l_ref13_Right_1_s, cd, if_pos (by omega), nth_of hx, ob, cd]
    by_cases c1 : x < 0
    · rw [if_pos c1, if_neg (tokN_not hx (.inl c1))]
    rw [if_neg c1, ob, cd]
    by_cases c2 : 10000 < x
    · rw [if_pos c2, if_neg (tokN_not hx (.inr (.inl c2)))]
    rw [if_neg c2, sub_take (by omega) (by omega), ob, ob]
    obtain ⟨r, hr, hs⟩ := place_sign N hN (l.take (i : Int).toNat) x (by rw [List.length_take]; omega)
    rw [hr, ob, cd]
    rw [Int.toNat_natCast] at hs
    by_cases c3 : x ∈ l.take i
    · rw [if_pos (hs.2 c3), if_neg (tokN_not hx (.inr (.inr c3)))]
    · rw [if_neg (fun e => c3 (hs.1 e)), w64n (by omega)]
      exact rring_loop N hN l hm k (i + 1) m (by omega) (by omega) (tokN_next hf hx (by omega) (by omega) c3)
theorem rring_eq (N : Nat) (hN : Fu + 3 ≤ N) (l : List Int) (hm : l.length ≤ 9223372036854775807) : m_ref13_Right N l = some (decide (RingR l)) := by
  obtain ⟨N, rfl⟩ : ∃ n, N = n + 1 := ⟨N - 1, by omega⟩
  rw [m_ref13_Right_eq, cd]
  by_cases h1 : 1000 < l.length
  · rw [if_pos (by omega)]
    have : ¬ RingR l := fun h => by have := h.1; omega
    simp [this]
  rw [if_neg (by omega), show ((0 : Int) = ((0 : Nat) : Int)) from rfl, rring_loop N (by omega) l hm l.length 0 N (by omega) (by have := Fu_eq; omega) ⟨fun t h => (by simp at h), by simp⟩, ob]
  by_cases h2 : TokN l
  · have : RingR l := ⟨by omega, h2.1, h2.2⟩
    simp [h2, this]
  · have : ¬ RingR l := fun h => h2 ⟨h.2.1, h.2.2⟩
    simp [h2, this]
end Go.Proofs.Ytggnolfcgaglfaa
