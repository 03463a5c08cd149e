/- Several texts as one (printed by wip/merge.py): SplR, SplA, SplB, SplC, SplD, SplE. -/
import Derived.Test.YtggnolfcgaglfaaRingB
import Derived.Test.YtggnolfcgaglfaaTowC
set_option linter.unusedVariables false
set_option linter.unusedSimpArgs false
/-! Rings: what the program and the document compute (picked by wip/pick.py) -/
namespace Go.Proofs.Ytggnolfcgaglfaa
open Go Go.RowKit
def ixI (l : List Int) (v : Int) : Int := if v ∈ l then (ix l v : Int) else -1
theorem ixI_pos {l : List Int} {v : Int} (h : v ∈ l) : ixI l v = (ix l v : Int) := if_pos h
theorem ixI_neg {l : List Int} {v : Int} (h : v ∉ l) : ixI l v = -1 := if_neg h
theorem ixI_sign {l : List Int} {v : Int} : (0 ≤ ixI l v) ↔ v ∈ l := by
  by_cases h : v ∈ l
  · rw [ixI_pos h]; simp [h]
  · rw [ixI_neg h]; simp [h]
theorem ixI_lt {l : List Int} {v : Int} : (ixI l v < 0) ↔ v ∉ l := by
  rw [← ixI_sign]; omega
theorem index_loop (N : Nat) (l : List Int) (v : Int) (hm : l.length ≤ 9223372036854775807) : ∀ (k i m : Nat), i + k = l.length → k < m →
    l_slices_Index_Lint_int_1 N m (l, v, ((l.length : Nat) : Int), (i : Int)) = some (if v ∈ l.drop i then .inr ((i + ix (l.drop i) v : Nat) : Int) else .inl ())
  | k, i, 0, h1, h2 => by omega
  | 0, i, m + 1, h1, h2 => by
    rw [l_slices_Index_Lint_int_1_s, cd, if_neg (by omega), List.drop_eq_nil_of_le (by omega)]; simp
  | k + 1, i, m + 1, h1, h2 => by
    obtain ⟨x, hx⟩ := get_at (xs := l) (i := i) (by omega)
    rw [l_slices_Index_Lint_int_1_s, cd, if_pos (by omega), nth_of hx, ob, cd, w64n (by omega), drop_at hx]
    by_cases h : v = x
    · subst h
      rw [if_pos rfl, if_pos (by simp), ix, if_pos rfl]; rfl
    · have hk : ix (x :: l.drop (i + 1)) v = ix (l.drop (i + 1)) v + 1 := by rw [ix, if_neg (fun e : x = v => h e.symm)]
      rw [if_neg h, index_loop N l v hm k (i + 1) m (by omega) (by omega), hk]
      by_cases h2 : v ∈ l.drop (i + 1)
      · rw [if_pos h2, if_pos (by simp [h2])]; congr 3; omega
      · rw [if_neg h2, if_neg (by simp [h, h2])]
theorem index_eq (N : Nat) (hN : Fu + 1 ≤ N) (l : List Int) (v : Int) (hm : l.length ≤ 9223372036854775807) : m_slices_Index_Lint_int N (l, v) = some (ixI l v) := by
  obtain ⟨N, rfl⟩ : ∃ n, N = n + 1 := ⟨N - 1, by omega⟩
  have h := index_loop N l v hm l.length 0 N (by omega) (by have := Fu_eq; omega)
  rw [List.drop_zero, Nat.zero_add] at h
  rw [m_slices_Index_Lint_int_eq, show ((0 : Int) = ((0 : Nat) : Int)) from rfl, h, ob, ixI]
  by_cases c : v ∈ l
  · rw [if_pos c, if_pos c]
  · rw [if_neg c, if_neg c]
theorem rplace_loop (N : Nat) (l : List Int) (v : Int) (hm : l.length ≤ 9223372036854775807) : ∀ (k i m : Nat), i + k = l.length → k < m →
    l_ref13_Place_1 N m (l, v, (i : Int)) = some (if v ∈ l.drop i then .inr ((i + ix (l.drop i) v : Nat) : Int) else .inl ())
  | k, i, 0, h1, h2 => by omega
  | 0, i, m + 1, h1, h2 => by
    rw [l_ref13_Place_1_s, cd, if_neg (by omega), List.drop_eq_nil_of_le (by omega)]; simp
  | k + 1, i, m + 1, h1, h2 => by
    obtain ⟨x, hx⟩ := get_at (xs := l) (i := i) (by omega)
    rw [l_ref13_Place_1_s, cd, if_pos (by omega), nth_of hx, ob, cd, w64n (by omega), drop_at hx]
    by_cases h : x = v
    · subst h
      rw [if_pos rfl, if_pos (by simp), ix, if_pos rfl]; rfl
    · have hk : ix (x :: l.drop (i + 1)) v = ix (l.drop (i + 1)) v + 1 := by rw [ix, if_neg h]
      rw [if_neg h, rplace_loop N l v hm k (i + 1) m (by omega) (by omega), hk]
      by_cases h2 : v ∈ l.drop (i + 1)
      · rw [if_pos h2, if_pos (by simp [h2])]; congr 3; omega
      · rw [if_neg h2, if_neg (by simp [h2, show ¬ v = x from fun e => h e.symm])]
theorem rplace_eq (N : Nat) (hN : Fu + 1 ≤ N) (l : List Int) (v : Int) (hm : l.length ≤ 9223372036854775807) : m_ref13_Place N (l, v) = some (ixI l v) := by
  obtain ⟨N, rfl⟩ : ∃ n, N = n + 1 := ⟨N - 1, by omega⟩
  have h := rplace_loop N l v hm l.length 0 N (by omega) (by have := Fu_eq; omega)
  rw [List.drop_zero, Nat.zero_add] at h
  rw [m_ref13_Place_eq, show ((0 : Int) = ((0 : Nat) : Int)) from rfl, h, ob, ixI]
  by_cases c : v ∈ l
  · rw [if_pos c, if_pos c]
  · rw [if_neg c, if_neg c]
theorem has_eq (N : Nat) (hN : Fu + 2 ≤ N) (l : List Int) (v : Int) (hm : l.length ≤ 9223372036854775807) : m_slices_Contains_Lint_int N (l, v) = some (decide (v ∈ l)) := by
  obtain ⟨N, rfl⟩ : ∃ n, N = n + 1 := ⟨N - 1, by omega⟩
  rw [m_slices_Contains_Lint_int_eq, index_eq N (by omega) l v hm, ob]
  congr 1
  exact decide_eq_decide.2 ixI_sign
theorem places_loop (N : Nat) (hN : Fu + 1 ≤ N) (l ts : List Int) (hm : l.length ≤ 9223372036854775807) (ht : ts.length ≤ 1000) : ∀ (k i m : Nat) (acc : List Int), i + k = ts.length → k < m → acc.length ≤ i →
    l_ring_places_1 N m (l, ts, ((ts.length : Nat) : Int), (i : Int), acc) = some (acc ++ (ts.drop i).map (ixI l))
  | k, i, 0, acc, h1, h2, h3 => by omega
  | 0, i, m + 1, acc, h1, h2, h3 => by
    rw [l_ring_places_1_s, cd, if_neg (by omega), List.drop_eq_nil_of_le (by omega)]; simp
  | k + 1, i, m + 1, acc, h1, h2, h3 => by
    obtain ⟨x, hx⟩ := get_at (xs := ts) (i := i) (by omega)
    rw [l_ring_places_1_s, cd, if_pos (by omega), nth_of hx, ob, index_eq N hN l x hm, ob, app_of (by omega) (by simp; omega), ob, w64n (by omega), places_loop N hN l ts hm ht k (i + 1) m _ (by omega) (by omega) (by simp; omega), drop_at hx]
    simp
theorem places_eq (N : Nat) (hN : Fu + 4 ≤ N) (l ts : List Int) (hm : l.length ≤ 9223372036854775807) (ht : ts.length ≤ 1000) : m_ring_places N (l, ts) = some (if RingR l then (decide (∀ t ∈ ts, t ∈ l), ts.map (ixI l)) else (false, [])) := by
  obtain ⟨N, rfl⟩ : ∃ n, N = n + 1 := ⟨N - 1, by omega⟩
  have h := places_loop N (by omega) l ts hm ht ts.length 0 N [] (by omega) (by have := Fu_eq; omega) (by simp)
  rw [List.drop_zero, List.nil_append] at h
  rw [m_ring_places_eq, ring_eq N (by omega) l hm, ob]
  by_cases c : RingR l
  · rw [if_pos c, decide_eq_true c, Bool.not_true, cond_false, show ((0 : Int) = ((0 : Nat) : Int)) from rfl, h, ob, has_eq N (by omega) _ _ (by simp; omega), ob]
    congr 2
    rw [← decide_not]
    refine decide_eq_decide.2 ?_
    rw [List.mem_map]
    constructor
    · intro h t ht
      refine Decidable.by_contra fun hn => h ⟨t, ht, ixI_neg hn⟩
    · rintro h ⟨t, ht, e⟩
      have := ixI_pos (h t ht)
      omega
  · rw [if_neg c, decide_eq_false c]; rfl
theorem concat_eq (N : Nat) (hN : Fu + 2 ≤ N) (a b : List Int) (ha : a.length ≤ 100000) (hb : b.length ≤ 100000) : m_slices_Concat_Lint_int N [a, b] = some (a ++ b) := by
  obtain ⟨N, rfl⟩ : ∃ n, N = n + 2 := ⟨N - 2, by omega⟩
  obtain ⟨K, hK⟩ : ∃ K, N + 1 = K + 3 := ⟨N - 2, by have := Fu_eq; omega⟩
  have n0 : nthI ([a, b] : List (List Int)) (0 : Int) = some a := rfl
  have n1 : nthI ([a, b] : List (List Int)) (1 : Int) = some b := rfl
  have w1 : IntKind.wrap .i64 ((0 : Int) + 1) = 1 := w64 (by omega) (by omega)
  have w2 : IntKind.wrap .i64 ((1 : Int) + 1) = 2 := w64 (by omega) (by omega)
  have e1 : l_slices_Concat_Lint_int_1 (N + 1) (N + 1) ([a, b], 0, [a, b], ((([a, b] : List (List Int)).length : Nat) : Int), 0) = some ([a, b], (a.length : Int) + (b.length : Int)) := by
    have : ∀ M, l_slices_Concat_Lint_int_1 M (K + 3) ([a, b], 0, [a, b], ((([a, b] : List (List Int)).length : Nat) : Int), 0) = some ([a, b], (a.length : Int) + (b.length : Int)) := fun M => by
      rw [l_slices_Concat_Lint_int_1_s, cd, if_pos (by simp), n0, ob, cd, w64 (x := (0 : Int) + ((a.length : Nat) : Int)) (by omega) (by omega), if_neg (by omega), w1, l_slices_Concat_Lint_int_1_s, cd, if_pos (by simp), n1, ob, cd, w64 (x := (0 : Int) + ((a.length : Nat) : Int) + ((b.length : Nat) : Int)) (by omega) (by omega), if_neg (by omega), w2, l_slices_Concat_Lint_int_1_s, cd, if_neg (by simp)]
      congr 2
      omega
    have h2 := this (N + 1)
    rwa [← hK] at h2
  have e2 : l_slices_Concat_Lint_int_2 (N + 1) (N + 1) ([a, b], ((([a, b] : List (List Int)).length : Nat) : Int), 0, []) = some (a ++ b) := by
    have : ∀ M, l_slices_Concat_Lint_int_2 M (K + 3) ([a, b], ((([a, b] : List (List Int)).length : Nat) : Int), 0, []) = some (a ++ b) := fun M => by
      rw [l_slices_Concat_Lint_int_2_s, cd, if_pos (by simp), n0, ob, app_of (by omega) (by simp; omega), ob, w1, l_slices_Concat_Lint_int_2_s, cd, if_pos (by simp), n1, ob, app_of (by omega) (by simp; omega), ob, w2, l_slices_Concat_Lint_int_2_s, cd, if_neg (by simp)]
      simp
    have h2 := this (N + 1)
    rwa [← hK] at h2
  rw [m_slices_Concat_Lint_int_eq, e1, ob]
  simp only
  rw [m_slices_Grow_Lint_int, decide_eq_true ⟨by omega, by omega⟩, cond_true, ob, e2, ob]
theorem turned_eq (N : Nat) (hN : Fu + 3 ≤ N) (l : List Int) (p : Nat) (hp : p ≤ l.length) (hm : l.length ≤ 1000) : m_ring_turned N (l, (p : Int)) = some (rot l p) := by
  obtain ⟨N, rfl⟩ : ∃ n, N = n + 1 := ⟨N - 1, by omega⟩
  rw [m_ring_turned_eq, sub_drop (by omega) (by omega), ob, sub_take (by omega) (by omega), ob, Int.toNat_natCast, concat_eq N (by omega) _ _ (by simp; omega) (by simp; omega), ob]; rfl
theorem from_eq (N : Nat) (hN : Fu + 5 ≤ N) (l : List Int) (x : Int) (hm : l.length ≤ 9223372036854775807) : m_ring_From N (l, x) = some (fromOf l x) := by
  obtain ⟨N, rfl⟩ : ∃ n, N = n + 1 := ⟨N - 1, by omega⟩
  rw [m_ring_From_eq, places_eq N (by omega) l [x] hm (by simp), ob, fromOf]
  by_cases c : RingR l
  · rw [if_pos c]
    by_cases c2 : x ∈ l
    · have := ix_lt c2
      rw [if_pos ⟨c, c2⟩]
      have e : (decide (∀ t ∈ [x], t ∈ l), [x].map (ixI l)) = (true, [(ix l x : Int)]) := by simp [c2, ixI_pos c2]
      rw [e]
      have n0 : nthI [(ix l x : Int)] (0 : Int) = some (ix l x : Int) := rfl
      simp only [Bool.not_true, cond_false, n0, ob]
      rw [turned_eq N (by omega) l _ (by omega) c.1]; rfl
    · have e : (decide (∀ t ∈ [x], t ∈ l), [x].map (ixI l)) = (false, [(-1 : Int)]) := by simp [c2, ixI_neg c2]
      rw [e, if_neg (fun h => c2 h.2)]; rfl
  · rw [if_neg c, if_neg (fun h => c h.1)]; rfl
theorem rfrom_eq (N : Nat) (hN : Fu + 5 ≤ N) (l : List Int) (x : Int) (hm : l.length ≤ 9223372036854775807) : m_ref13_From N (l, x) = some (fromOf l x) := by
  obtain ⟨N, rfl⟩ : ∃ n, N = n + 1 := ⟨N - 1, by omega⟩
  rw [m_ref13_From_eq, rplace_eq N (by omega) l x hm, ob, rring_eq N (by omega) l hm, ob, cdn, fromOf]
  by_cases c : RingR l
  · rw [if_pos c, cd]
    by_cases c2 : x ∈ l
    · have := ix_lt c2
      have hl := c.1
      rw [if_neg (fun h => ixI_lt.1 h c2), if_pos ⟨c, c2⟩, ixI_pos c2, sub_drop (by omega) (by omega), ob, app_of (by omega) (by simp; omega), ob, sub_take (by omega) (by omega), ob, app_of (by omega) (by simp; omega), ob]
      simp [rotAt, rot]
    · rw [if_pos (ixI_lt.2 c2), if_neg (fun h => c2 h.2)]
  · rw [if_neg c, if_neg (fun h => c h.1)]
theorem min_loop (N : Nat) (l : List Int) (hm : l.length ≤ 1000) : ∀ (k i m : Nat) (a : Int), i + k = l.length → k < m → a ∈ l → (∀ (j : Nat) y, j < i → l[j]? = some y → a ≤ y) →
    l_slices_Min_Lint_int_1 N m (l, a, (i : Int)) = some (minV l)
  | k, i, 0, a, h1, h2, h3, h4 => by omega
  | 0, i, m + 1, a, h1, h2, h3, h4 => by
    rw [l_slices_Min_Lint_int_1_s, cd, if_neg (by omega)]
    congr 1
    refine (minV_uniq h3 fun y hy => ?_).symm
    obtain ⟨j, hj⟩ := List.getElem?_of_mem hy
    exact h4 j y (by have := (List.getElem?_eq_some_iff.1 hj).1; omega) hj
  | k + 1, i, m + 1, a, h1, h2, h3, h4 => by
    obtain ⟨x, hx⟩ := get_at (xs := l) (i := i) (by omega)
    rw [l_slices_Min_Lint_int_1_s, cd, if_pos (by omega), nth_of hx, ob, w64n (by omega)]
    refine min_loop N l hm k (i + 1) m _ (by omega) (by omega) ?_ fun j y hj hy => ?_
    · split
      · exact List.mem_of_getElem? hx
      · exact h3
    · by_cases e : j = i
      · subst e
        rw [hx] at hy; cases hy
        split <;> omega
      · have := h4 j y (by omega) hy
        split <;> omega
theorem min_eq (N : Nat) (hN : Fu + 1 ≤ N) (l : List Int) (hm : l.length ≤ 1000) (h0 : l ≠ []) : m_slices_Min_Lint_int N l = some (minV l) := by
  obtain ⟨N, rfl⟩ : ∃ n, N = n + 1 := ⟨N - 1, by omega⟩
  have hp := List.length_pos_iff.2 h0
  obtain ⟨x, hx⟩ := get_at (xs := l) (i := 0) hp
  rw [m_slices_Min_Lint_int_eq, cd, if_neg (by omega), show ((0 : Int) = ((0 : Nat) : Int)) from rfl, nth_of hx, ob, show ((1 : Int) = ((1 : Nat) : Int)) from rfl, min_loop N l hm (l.length - 1) 1 N x (by omega) (by have := Fu_eq; omega) (List.mem_of_getElem? hx) (fun j y hj hy => by
    have : j = 0 := by omega
    subst this
    rw [hx] at hy; cases hy; exact Int.le_refl _), ob]
theorem rleast_loop (N : Nat) (l : List Int) (hm : l.length ≤ 1000) : ∀ (k i m : Nat) (a : Int), i + k = l.length → k < m → a ∈ l → (∀ (j : Nat) y, j < i → l[j]? = some y → a ≤ y) →
    l_ref13_Plain_1 N m (l, a, (i : Int)) = some (l, minV l)
  | k, i, 0, a, h1, h2, h3, h4 => by omega
  | 0, i, m + 1, a, h1, h2, h3, h4 => by
    rw [l_ref13_Plain_1_s, cd, if_neg (by omega)]
    congr 2
    refine (minV_uniq h3 fun y hy => ?_).symm
    obtain ⟨j, hj⟩ := List.getElem?_of_mem hy
    exact h4 j y (by have := (List.getElem?_eq_some_iff.1 hj).1; omega) hj
  | k + 1, i, m + 1, a, h1, h2, h3, h4 => by
    obtain ⟨x, hx⟩ := get_at (xs := l) (i := i) (by omega)
    rw [l_ref13_Plain_1_s, cd, if_pos (by omega), nth_of hx, ob, w64n (by omega)]
    refine rleast_loop N l hm k (i + 1) m _ (by omega) (by omega) ?_ fun j y hj hy => ?_
    · split
      · exact List.mem_of_getElem? hx
      · exact h3
    · by_cases e : j = i
      · subst e
        rw [hx] at hy; cases hy
        split <;> omega
      · have := h4 j y (by omega) hy
        split <;> omega
theorem plain_eq (N : Nat) (hN : Fu + 5 ≤ N) (l : List Int) (hm : l.length ≤ 9223372036854775807) : m_ring_Plain N l = some (plainOf l) := by
  obtain ⟨N, rfl⟩ : ∃ n, N = n + 1 := ⟨N - 1, by omega⟩
  rw [m_ring_Plain_eq, ring_eq N (by omega) l hm, ob, cdn, plainOf]
  by_cases c : RingR l
  · rw [if_pos c, cd]
    by_cases c2 : l = []
    · subst c2; simp
    · have hp := List.length_pos_iff.2 c2
      have hi := (minV_ok c2).1
      have := ix_lt hi
      rw [if_neg (by omega), if_pos ⟨c, c2⟩, min_eq N (by omega) l c.1 c2, ob, index_eq N (by omega) l _ hm, ob, ixI_pos hi, turned_eq N (by omega) l _ (by omega) c.1, ob]; rfl
  · rw [if_neg c, if_neg (fun h => c h.1)]
theorem rplain_eq (N : Nat) (hN : Fu + 6 ≤ N) (l : List Int) (hm : l.length ≤ 9223372036854775807) : m_ref13_Plain N l = some (plainOf l) := by
  obtain ⟨N, rfl⟩ : ∃ n, N = n + 1 := ⟨N - 1, by omega⟩
  rw [m_ref13_Plain_eq, rring_eq N (by omega) l hm, ob, cdn, plainOf]
  by_cases c : RingR l
  · rw [if_pos c, cd]
    by_cases c2 : l = []
    · subst c2; simp
    · have hp := List.length_pos_iff.2 c2
      have hi := (minV_ok c2).1
      obtain ⟨x, hx⟩ := get_at (xs := l) (i := 0) hp
      have e := rleast_loop N l c.1 l.length 0 N x (by omega) (by have := Fu_eq; omega) (List.mem_of_getElem? hx) (fun j y hj hy => by omega)
      rw [if_neg (by omega), if_pos ⟨c, c2⟩, show ((0 : Int) = ((0 : Nat) : Int)) from rfl, nth_of hx, ob, e, ob]
      simp only
      rw [rfrom_eq N (by omega) l _ hm, ob, fromOf, if_pos ⟨c, hi⟩]
  · rw [if_neg c, if_neg (fun h => c h.1)]
theorem join_eq (N : Nat) (hN : Fu + 6 ≤ N) (a : List Int) (x : Int) (b : List Int) (y : Int) (ha : a.length ≤ 9223372036854775807) (hb : b.length ≤ 9223372036854775807) : m_ring_Join N (a, x, b, y) = some (joinOf a x b y) := by
  obtain ⟨N, rfl⟩ : ∃ n, N = n + 1 := ⟨N - 1, by omega⟩
  rw [m_ring_Join_eq, places_eq N (by omega) a [x] ha (by simp), ob, joinOf]
  by_cases c : ¬ RingR a
  · rw [if_neg c, if_neg (fun h => c h.1.1)]; rfl
  have c := Decidable.not_not.1 c
  rw [if_pos c]
  by_cases cx : ¬ x ∈ a
  · have e : decide (∀ t ∈ [x], t ∈ a) = false := by simp [cx]
    rw [e, if_neg (fun h => cx h.1.2)]; rfl
  have c1 : RingR a ∧ x ∈ a := ⟨c, Decidable.not_not.1 cx⟩
  have e : decide (∀ t ∈ [x], t ∈ a) = true := by simp [c1.2]
  rw [e]
  simp only [Bool.not_true, cond_false]
  rw [from_eq N (by omega) b y hb, ob, fromOf]
  by_cases c2 : ¬ (RingR b ∧ y ∈ b)
  · rw [if_neg c2, if_neg (fun h => c2 h.2.1)]; rfl
  have c2 := Decidable.not_not.1 c2
  have hne : a ≠ [] := List.ne_nil_of_mem c1.2
  have hx := (plain_mem c1.1).2 c1.2
  have hlt := ix_lt hx
  have hpl := plain_len c1.1
  have hrl := rotAt_len b y
  have hbl := List.length_pos_of_mem c2.2
  have ha1 := c1.1.1
  have hb1 := c2.1.1
  rw [if_pos c2]
  simp only [Bool.not_true, cond_false]
  have hin : m_slices_Insert_Lint_int_o_o N (((ix (plainOf a) x + 1 : Nat) : Int), plainOf a, rotAt b y) = some (insOf (plainOf a) (ix (plainOf a) x + 1) (rotAt b y)) := by
    rw [m_slices_Insert_Lint_int_o_o, decide_eq_true ⟨by simp only; omega, by simp only; omega, by simp only; omega, by simp only; omega, by simp only; omega⟩, cond_true]
    simp only [insI, insOf, Int.toNat_natCast]
  rw [plain_eq N (by omega) a ha, ob, index_eq N (by omega) _ _ (by omega), ob, ixI_pos hx, w64n (by omega), hin, ob, ring_eq N (by omega) _ (by simp [insOf]; omega), ob, cdn]
  by_cases c3 : RingR (insOf (plainOf a) (ix (plainOf a) x + 1) (rotAt b y))
  · rw [if_pos c3, if_pos ⟨c1, c2, c3⟩]
  · rw [if_neg c3, if_neg (fun h => c3 h.2.2)]
theorem rjoin_eq (N : Nat) (hN : Fu + 7 ≤ N) (a : List Int) (x : Int) (b : List Int) (y : Int) (ha : a.length ≤ 9223372036854775807) (hb : b.length ≤ 9223372036854775807) : m_ref13_Join N (a, x, b, y) = some (joinOf a x b y) := by
  obtain ⟨N, rfl⟩ : ∃ n, N = n + 1 := ⟨N - 1, by omega⟩
  rw [m_ref13_Join_eq, rfrom_eq N (by omega) b y hb, ob, rring_eq N (by omega) a ha, ob, cdn, joinOf]
  by_cases c : ¬ RingR a
  · rw [if_neg c, if_neg (fun h => c h.1.1)]
  have c := Decidable.not_not.1 c
  rw [if_pos c, rplace_eq N (by omega) a x ha, ob, cd]
  by_cases cx : ¬ x ∈ a
  · rw [if_pos (ixI_lt.2 cx), if_neg (fun h => cx h.1.2)]
  have cx := Decidable.not_not.1 cx
  rw [if_neg (fun h => ixI_lt.1 h cx), fromOf]
  by_cases c2 : ¬ (RingR b ∧ y ∈ b)
  · rw [if_neg c2, if_neg (fun h => c2 h.2.1)]; rfl
  have c2 := Decidable.not_not.1 c2
  have hx := (plain_mem c).2 cx
  have hlt := ix_lt hx
  have hpl := plain_len c
  have hrl := rotAt_len b y
  have ha1 := c.1
  have hb1 := c2.1.1
  rw [if_pos c2]
  simp only [Bool.not_true, cond_false]
  rw [rplain_eq N (by omega) a ha, ob, rplace_eq N (by omega) _ _ (by omega), ob, ixI_pos hx, w64n (by omega), sub_take (by omega) (by omega), ob, Int.toNat_natCast, app_of (by omega) (by simp; omega), ob, app_of (by omega) (by simp; omega), ob, sub_drop (by omega) (by omega), ob, Int.toNat_natCast, app_of (by omega) (by simp; omega), ob, List.nil_append, show List.take (ix (plainOf a) x + 1) (plainOf a) ++ rotAt b y ++ List.drop (ix (plainOf a) x + 1) (plainOf a) = insOf (plainOf a) (ix (plainOf a) x + 1) (rotAt b y) from rfl, rring_eq N (by omega) _ (by simp [insOf]; omega), ob, cdn]
  by_cases c3 : RingR (insOf (plainOf a) (ix (plainOf a) x + 1) (rotAt b y))
  · rw [if_pos c3, if_pos ⟨⟨c, cx⟩, c2, c3⟩]
  · rw [if_neg c3, if_neg (fun h => c3 h.2.2)]
theorem cut_eq (N : Nat) (hN : Fu + 5 ≤ N) (l : List Int) (x y : Int) (hm : l.length ≤ 9223372036854775807) : m_ring_Cut N (l, x, y) = some (cutOf l x y) := by
  obtain ⟨N, rfl⟩ : ∃ n, N = n + 1 := ⟨N - 1, by omega⟩
  rw [m_ring_Cut_eq, places_eq N (by omega) l [x, y] hm (by simp), ob, cutOf]
  by_cases c : ¬ RingR l
  · rw [if_neg c, if_neg (fun h => c h.1)]; rfl
  have c := Decidable.not_not.1 c
  have hl := c.1
  rw [if_pos c]
  by_cases c2 : ¬ (x ∈ l ∧ y ∈ l)
  · have e : decide (∀ t ∈ [x, y], t ∈ l) = false := by simpa using c2
    rw [e, if_neg (fun h => c2 h.2)]; rfl
  have c2 := Decidable.not_not.1 c2
  have e : decide (∀ t ∈ [x, y], t ∈ l) = true := by simpa using c2
  have hx := ix_lt c2.1
  have hy := ix_lt c2.2
  have em : [x, y].map (ixI l) = [(ix l x : Int), (ix l y : Int)] := by simp [ixI_pos c2.1, ixI_pos c2.2]
  have n0 : nthI [(ix l x : Int), (ix l y : Int)] (0 : Int) = some (ix l x : Int) := rfl
  have n1 : nthI [(ix l x : Int), (ix l y : Int)] (1 : Int) = some (ix l y : Int) := rfl
  rw [e, em, if_pos ⟨c, c2⟩]
  simp only [Bool.not_true, cond_false, n0, n1, ob]
  rw [w64n (by omega), w64n (by omega), cd]
  by_cases c3 : ix l x < ix l y
  · rw [if_pos (by omega), if_pos c3, sub_take (by omega) (by omega), ob, sub_drop (by omega) (by omega), ob, Int.toNat_natCast, Int.toNat_natCast, concat_eq N (by omega) _ _ (by simp; omega) (by simp; omega), ob, sub_of (by omega) (by omega) (by omega), ob, Int.toNat_natCast, Int.toNat_natCast, clone_eq N (by omega) _ (by simp; omega), ob]
  · rw [if_neg (by omega), if_neg c3, sub_of (by omega) (by omega) (by omega), ob, Int.toNat_natCast, Int.toNat_natCast, clone_eq N (by omega) _ (by simp; omega), ob, sub_drop (by omega) (by omega), ob, sub_take (by omega) (by omega), ob, Int.toNat_natCast, Int.toNat_natCast, concat_eq N (by omega) _ _ (by simp; omega) (by simp; omega), ob]
theorem rcut1 (N : Nat) (hN : Fu + 1 ≤ N) (l : List Int) (x y : Int) (h : RingR l) (hx : x ∈ l) (hy : y ∈ l) : ∀ (q e m : Nat), e + q = ix (rot l (ix l x + 1)) y → q < m →
    l_ref13_Cut_1 N m (l, x, y, ((l.length : Nat) : Int), ((e + 1 : Nat) : Int), (rot l (ix l x + 1)).take e) = some (l, ((l.length : Nat) : Int), (rot l (ix l x + 1)).take (ix (rot l (ix l x + 1)) y + 1))
  | q, e, 0, h1, h2 => by omega
  | q, e, m + 1, h1, h2 => by
    have hxl := ix_lt hx
    have hyr : y ∈ rot l (ix l x + 1) := rot_mem.2 hy
    have hyl := ix_lt hyr
    rw [rot_len] at hyl
    have hl := h.1
    obtain ⟨z, hz⟩ := get_at (xs := rot l (ix l x + 1)) (i := e) (by rw [rot_len]; omega)
    have hz2 := hz
    rw [rot_get l (by omega) (by omega)] at hz2
    rw [l_ref13_Cut_1_s, cd, if_pos (by omega), rplace_eq N hN l x (by omega), ob, ixI_pos hx, ← Int.natCast_add, w64 (by omega) (by omega), rem_of (by omega), ob, tmod_nat, show ix l x + (e + 1) = ix l x + 1 + e by omega, nth_of hz2, ob, app_of (by omega) (by simp [rot_len]; omega), ob, cd, ← take_at hz, w64n (by omega)]
    by_cases c : z = y
    · subst c
      have := ix_at (rot_nodup.2 h.2.2) hz
      rw [if_pos rfl, this]
    · rw [if_neg c]
      have hne : e ≠ ix (rot l (ix l x + 1)) y := fun e2 => c (by
        have := ix_get hyr
        rw [← e2, hz] at this
        exact Option.some.inj this)
      cases q with
      | zero => omega
      | succ q => exact rcut1 N hN l x y h hx hy q (e + 1) m (by omega) (by omega)
theorem rcut2 (N : Nat) (hN : Fu + 1 ≤ N) (l part : List Int) (hl : l.length ≤ 1000) (hp : part.length ≤ 1000) : ∀ (k i m : Nat), i + k = l.length → k < m →
    l_ref13_Cut_2 N m (l, ((l.length : Nat) : Int), (i : Int), (l.take i).filter (fun z => decide (z ∉ part)), part) = some (l.filter (fun z => decide (z ∉ part)), part)
  | k, i, 0, h1, h2 => by omega
  | 0, i, m + 1, h1, h2 => by
    rw [l_ref13_Cut_2_s, cd, if_neg (by omega), List.take_of_length_le (by omega)]
  | k + 1, i, m + 1, h1, h2 => by
    obtain ⟨x, hx⟩ := get_at (xs := l) (i := i) (by omega)
    have hfl := List.length_filter_le (fun z => decide (z ∉ part)) (l.take i)
    rw [List.length_take] at hfl
    rw [l_ref13_Cut_2_s, cd, if_pos (by omega), nth_of hx, ob, rplace_eq N hN part x (by omega), ob, cd, ob, app_of (by omega) (by rw [List.length_singleton]; omega), ob, w64n (by omega)]
    have ih := rcut2 N hN l part hl hp k (i + 1) m (by omega) (by omega)
    rw [take_at hx, List.filter_append] at ih
    by_cases c : x ∉ part
    · rw [if_pos (ixI_lt.2 c)]
      rw [List.filter_cons_of_pos (by simpa using c), List.filter_nil] at ih
      exact ih
    · rw [if_neg (fun h => c (ixI_lt.1 h))]
      rw [List.filter_cons_of_neg (by simpa using c), List.filter_nil, List.append_nil] at ih
      exact ih
theorem filt_out {A part : List Int} (h : ∀ z ∈ A, z ∉ part) : A.filter (fun z => decide (z ∉ part)) = A := List.filter_eq_self.2 fun z hz => by simpa using h z hz
theorem filt_in {A part : List Int} (h : ∀ z ∈ A, z ∈ part) : A.filter (fun z => decide (z ∉ part)) = [] := List.filter_eq_nil_iff.2 fun z hz => by simpa using h z hz
theorem rcut_parts {l : List Int} {x y : Int} (h : RingR l) (hx : x ∈ l) (hy : y ∈ l) :
    cutOf l x y = (true, l.filter (fun z => decide (z ∉ (rot l (ix l x + 1)).take (ix (rot l (ix l x + 1)) y + 1))), (rot l (ix l x + 1)).take (ix (rot l (ix l x + 1)) y + 1)) := by
  by_cases c : x = y
  · subst c
    obtain ⟨u, t, e, h1, h2⟩ := ix_split hx
    have hn := nodup_parts (e ▸ h.2.2)
    have hrot : rot l (ix l x + 1) = (t ++ u) ++ [x] := by
      rw [h2, e, show u ++ x :: t = (u ++ [x]) ++ t by simp, show u.length + 1 = (u ++ [x]).length by simp, rot_app]; simp
    rw [cut_self h hx, hrot, ix_mid (u := t ++ u) (t := []) (by simp [hn.1, hn.2]), List.take_of_length_le (by simp; omega)]
    refine Prod.ext rfl (Prod.ext ?_ rfl)
    simp only
    rw [filt_in]
    intro z hz
    rw [e] at hz
    simp at hz ⊢
    rcases hz with hz | hz | hz <;> simp [hz]
  obtain ⟨u, t, e, h1, h2⟩ := ix_split hx
  have hn := nodup_parts (e ▸ h.2.2)
  have hnd := List.nodup_append.1 (e ▸ h.2.2 : (u ++ x :: t).Nodup)
  have hrot : rot l (ix l x + 1) = t ++ u ++ [x] := by
    rw [h2, e, show u ++ x :: t = (u ++ [x]) ++ t by simp, show u.length + 1 = (u ++ [x]).length by simp, rot_app]; simp
  rw [cutOf, if_pos ⟨h, hx, hy⟩, hrot]
  by_cases hyu : y ∈ u
  · obtain ⟨a, b, e2, k1, k2⟩ := ix_split hyu
    have hyx : ix l y = a.length := by rw [e, ix_app1 _ hyu, k2]
    have hyt : y ∉ t := fun ht => hnd.2.2 y hyu y (by simp [ht]) rfl
    have hbn := nodup_parts (e2 ▸ hnd.1)
    have hda := List.nodup_append.1 (e2 ▸ hnd.1 : (a ++ y :: b).Nodup)
    have e3 : ix (t ++ u ++ [x]) y = (t ++ a).length := by
      rw [e2, show t ++ (a ++ y :: b) ++ [x] = (t ++ a) ++ y :: (b ++ [x]) by simp, ix_mid (by simp [hyt, k1])]
    have e4 : (t ++ u ++ [x]).take ((t ++ a).length + 1) = t ++ a ++ [y] := by
      rw [e2, show t ++ (a ++ y :: b) ++ [x] = (t ++ a ++ [y]) ++ (b ++ [x]) by simp, List.take_left' (by simp; omega)]
    rw [h2, hyx, if_neg (by rw [e2]; simp), e3, e4]
    refine Prod.ext rfl (Prod.ext ?_ ?_)
    · simp only
      rw [e, e2, show a ++ y :: b ++ x :: t = (a ++ [y]) ++ (b ++ [x]) ++ t by simp, List.take_left' (by simp; omega), List.drop_left' (by simp), List.filter_append, List.filter_append, filt_in (A := a ++ [y]) (by intro z hz; simp at hz ⊢; rcases hz with hz | hz <;> simp [hz]), filt_in (A := t) (by intro z hz; simp [hz]), filt_out (A := b ++ [x])]
      · simp
      · intro z hz hz2
        simp only [List.mem_append, List.mem_singleton] at hz hz2
        rcases hz with hz | rfl
        · rcases hz2 with (hz2 | hz2) | rfl
          · exact hnd.2.2 z (by rw [e2]; simp [hz]) z (by simp [hz2]) rfl
          · exact hda.2.2 z hz2 z (by simp [hz]) rfl
          · exact hbn.2 hz
        · rcases hz2 with (hz2 | hz2) | rfl
          · exact hn.2 hz2
          · exact hn.1 (by rw [e2]; simp [hz2])
          · exact c rfl
    · simp only
      rw [e, e2, show a ++ y :: b ++ x :: t = (a ++ [y] ++ (b ++ [x])) ++ t by simp, List.drop_left' (by simp; omega), show a ++ [y] ++ (b ++ [x]) ++ t = (a ++ [y]) ++ (b ++ [x] ++ t) by simp, List.take_left' (by simp)]
      simp
  · have hyt : y ∈ t := by
      rw [e] at hy
      rcases List.mem_append.1 hy with hy | hy
      · exact absurd hy hyu
      · exact (List.mem_cons.1 hy).resolve_left fun e => c e.symm
    obtain ⟨a, b, e2, k1, k2⟩ := ix_split hyt
    have hyx : ix l y = u.length + 1 + a.length := by rw [e, ix_app2 _ hyu, ix, if_neg c, k2]; omega
    have ht := (List.nodup_cons.1 hnd.2.1).2
    have hbn := nodup_parts (e2 ▸ ht)
    have hda := List.nodup_append.1 (e2 ▸ ht : (a ++ y :: b).Nodup)
    have e3 : ix (t ++ u ++ [x]) y = a.length := by
      rw [e2, show (a ++ y :: b) ++ u ++ [x] = a ++ y :: (b ++ u ++ [x]) by simp, ix_mid k1]
    have e4 : (t ++ u ++ [x]).take (a.length + 1) = a ++ [y] := by
      rw [e2, show (a ++ y :: b) ++ u ++ [x] = (a ++ [y]) ++ (b ++ u ++ [x]) by simp, List.take_left' (by simp)]
    rw [h2, hyx, if_pos (by omega), e3, e4]
    refine Prod.ext rfl (Prod.ext ?_ ?_)
    · simp only
      rw [e, e2, show u ++ x :: (a ++ y :: b) = (u ++ [x]) ++ (a ++ [y]) ++ b by simp, List.drop_left' (by simp; omega), show u ++ [x] ++ (a ++ [y]) ++ b = (u ++ [x]) ++ ((a ++ [y]) ++ b) by simp, List.take_left' (by simp), List.filter_append (u ++ [x]) _, List.filter_append (a ++ [y]) b, filt_in (A := a ++ [y]) (by intro z hz; exact hz), filt_out (A := u ++ [x]), filt_out (A := b)]
      · simp
      · intro z hz hz2
        simp only [List.mem_append, List.mem_singleton] at hz2
        rcases hz2 with hz2 | rfl
        · exact hda.2.2 z hz2 z (by simp [hz]) rfl
        · exact hbn.2 hz
      · intro z hz hz2
        simp only [List.mem_append, List.mem_singleton] at hz hz2
        rcases hz with hz | rfl
        · rcases hz2 with hz2 | rfl
          · exact hnd.2.2 z hz z (by rw [e2]; simp [hz2]) rfl
          · exact hyu hz
        · rcases hz2 with hz2 | rfl
          · exact hn.2 (by rw [e2]; simp [hz2])
          · exact c rfl
    · simp only
      rw [e, e2, show u ++ x :: (a ++ y :: b) = (u ++ [x] ++ (a ++ [y])) ++ b by simp, List.take_left' (by simp; omega), List.drop_left' (by simp)]
theorem rcut_eq (N : Nat) (hN : Fu + 5 ≤ N) (l : List Int) (x y : Int) (hm : l.length ≤ 9223372036854775807) : m_ref13_Cut N (l, x, y) = some (cutOf l x y) := by
  obtain ⟨N, rfl⟩ : ∃ n, N = n + 1 := ⟨N - 1, by omega⟩
  rw [m_ref13_Cut_eq, rring_eq N (by omega) l hm, ob, cdn]
  by_cases c : ¬ RingR l
  · rw [if_neg c, cutOf, if_neg (fun h => c h.1)]
  have c := Decidable.not_not.1 c
  rw [if_pos c, rplace_eq N (by omega) l x hm, ob, cd]
  by_cases cx : ¬ x ∈ l
  · rw [if_pos (ixI_lt.2 cx), cutOf, if_neg (fun h => cx h.2.1)]
  have cx := Decidable.not_not.1 cx
  rw [if_neg (fun h => ixI_lt.1 h cx), rplace_eq N (by omega) l y hm, ob, cd]
  by_cases cy : ¬ y ∈ l
  · rw [if_pos (ixI_lt.2 cy), cutOf, if_neg (fun h => cy h.2.2)]
  have cy := Decidable.not_not.1 cy
  have hl := c.1
  have hd := ix_le (rot l (ix l x + 1)) y
  rw [rot_len] at hd
  have e1 := rcut1 N (by omega) l x y c cx cy (ix (rot l (ix l x + 1)) y) 0 N (by omega) (by have := Fu_eq; omega)
  have e2 := rcut2 N (by omega) l ((rot l (ix l x + 1)).take (ix (rot l (ix l x + 1)) y + 1)) hl (by simp [rot_len]; omega) l.length 0 N (by omega) (by have := Fu_eq; omega)
  rw [List.take_zero, show ((0 + 1 : Nat) : Int) = (1 : Int) from rfl] at e1
  rw [List.take_zero, List.filter_nil, show ((0 : Nat) : Int) = (0 : Int) from rfl] at e2
  rw [if_neg (fun h => ixI_lt.1 h cy), e1, ob]
  simp only
  rw [e2, ob, rcut_parts c cx cy]
theorem plain_lens (l : List Int) : (plainOf l).length ≤ 1000 := by
  unfold plainOf
  split
  · rename_i h; rw [rotAt_len]; exact h.1.1
  · simp
theorem from_lens (l : List Int) (x : Int) : (fromOf l x).2.length ≤ 1000 := by
  unfold fromOf
  split
  · rename_i h; simp only; rw [rotAt_len]; exact h.1.1
  · simp
theorem join_lens (a : List Int) (x : Int) (b : List Int) (y : Int) : (joinOf a x b y).2.length ≤ 1000 := by
  unfold joinOf
  split
  · rename_i h; exact h.2.2.1
  · simp
theorem cut_lens (l : List Int) (x y : Int) : (cutOf l x y).2.1.length ≤ 2000 ∧ (cutOf l x y).2.2.length ≤ 2000 := by
  unfold cutOf
  split
  · rename_i h
    have := h.1.1
    split <;> constructor <;> simp <;> omega
  · simp
theorem pick_of (l : List Int) (hl : l.length ≤ 1000) (h0 : 0 < l.length) (p : Int) (h1 : 0 ≤ p) (h2 : p ≤ 255) : ∃ z x, remI (IntKind.wrap .i64 p) ((l.length : Nat) : Int) = some z ∧ nthI l z = some x ∧ x ∈ l := by
  obtain ⟨p, rfl⟩ : ∃ q : Nat, p = (q : Int) := ⟨p.toNat, by omega⟩
  obtain ⟨x, hx⟩ := get_at (xs := l) (i := p % l.length) (Nat.mod_lt _ h0)
  exact ⟨((p % l.length : Nat) : Int), x, by rw [w64 (by omega) (by omega), rem_of (by omega), tmod_nat], nth_of hx, List.mem_of_getElem? hx⟩
theorem great_loop (N : Nat) (most : Int) (t t2 : List Int) (t3 : List (List Int)) (hm : t3.length ≤ 9223372036854775807) : ∀ (k i m : Nat) (n : Int), i + k = t3.length → k < m → ∃ r, l_ref14_Great_1 N m (most, n, (i : Int), t, t2, t3) = some r
  | k, i, 0, n, h1, h2 => by omega
  | 0, i, m + 1, n, h1, h2 => by
    rw [l_ref14_Great_1_s, cd, if_neg (by omega)]
    exact ⟨_, rfl⟩
  | k + 1, i, m + 1, n, h1, h2 => by
    obtain ⟨x, hx⟩ := get_at (xs := t3) (i := i) (by omega)
    rw [l_ref14_Great_1_s, cd, if_pos (by omega), cd]
    by_cases h : n ≤ most
    · rw [if_pos h, nth_of hx, ob, w64n (by omega)]
      exact great_loop N most t t2 t3 hm k (i + 1) m _ (by omega) (by omega)
    · rw [if_neg h]
      exact ⟨_, rfl⟩
theorem great_ex (N : Nat) (hN : Fu + 1 ≤ N) (most : Int) (t t2 : List Int) (t3 : List (List Int)) (hm : t3.length ≤ 9223372036854775807) : ∃ b, m_ref14_Great N (t, t2, t3, most) = some b := by
  obtain ⟨N, rfl⟩ : ∃ n, N = n + 1 := ⟨N - 1, by omega⟩
  obtain ⟨r, hr⟩ := great_loop N most t t2 t3 hm t3.length 0 N (IntKind.wrap .i64 ((IntKind.wrap .i64 ((((List.length t) : Nat) : Int) + (((List.length t2) : Nat) : Int))) + (((List.length t3) : Nat) : Int))) (by omega) (by have := Fu_eq; omega)
  rw [m_ref14_Great_eq, show ((0 : Int) = ((0 : Nat) : Int)) from rfl, hr]
  exact ⟨_, rfl⟩
end Go.Proofs.Ytggnolfcgaglfaa
/-! How many links are others: what the program's function and the document's compute, told plainly. -/
namespace Go.Proofs.Ytggnolfcgaglfaa
open Go Go.RowKit

abbrev Lnk := Int × Int × Int
abbrev Spot := Int × Int
def spt (x : Lnk) : Spot := (x.1, x.2.1)
/-- what the last one of a spot tells -/
def lk : List Lnk → Spot → Option Int
  | [], _ => none
  | x :: l, s => match lk l s with
    | some v => some v
    | none => if spt x = s then some x.2.2 else none
theorem lk_app : ∀ (a b : List Lnk) (s : Spot), lk (a ++ b) s = match lk b s with
    | some v => some v
    | none => lk a s
  | [], b, s => by simp only [List.nil_append, lk]; cases lk b s <;> rfl
  | x :: a, b, s => by
    simp only [List.cons_append, lk, lk_app a b s]
    cases lk b s <;> simp
theorem lk_one (x : Lnk) (s : Spot) : lk [x] s = if spt x = s then some x.2.2 else none := rfl
theorem lk_snoc (a : List Lnk) (x : Lnk) (s : Spot) : lk (a ++ [x]) s = if spt x = s then some x.2.2 else lk a s := by
  rw [lk_app, lk_one]
  by_cases h : spt x = s <;> simp [h]
theorem lk_some_of : ∀ {l : List Lnk} {x : Lnk}, x ∈ l → lk l (spt x) ≠ none
  | y :: l, x, h => by
    simp only [lk]
    rcases List.mem_cons.1 h with rfl | h
    · cases lk l (spt x) <;> simp
    · have := lk_some_of h
      cases e : lk l (spt x) with
      | none => exact absurd e this
      | some v => simp
theorem lk_mem : ∀ {l : List Lnk} {s : Spot} {v : Int}, lk l s = some v → ∃ x ∈ l, spt x = s ∧ x.2.2 = v
  | y :: l, s, v, h => by
    simp only [lk] at h
    cases e : lk l s with
    | some w =>
      rw [e] at h
      cases h
      obtain ⟨x, h1, h2⟩ := lk_mem e
      exact ⟨x, by simp [h1], h2⟩
    | none =>
      rw [e] at h
      simp only at h
      split at h
      · rename_i hs; cases h; exact ⟨y, by simp, hs, rfl⟩
      · cases h

/-! maps of spots -/
abbrev K2 : Sc := .pr (.i .i64) (.i .i64)
theorem eq2 (x y : Spot) : eqV K2 x y = decide (x = y) := by
  rw [Bool.eq_iff_iff, eqV_iff K2 x y rfl]
  simp
theorem get2_put : ∀ (es : List (Spot × Int)) (c d : Spot) (v : Int), mget K2 (mput K2 es c v) d = if c = d then some v else mget K2 es d
  | [], c, d, v => by
    simp only [mput, mget, eq2, cd]
  | p :: es, c, d, v => by
    rw [mput, eq2, cd]
    by_cases h : p.1 = c
    · rw [if_pos h]
      simp only [mget, eq2, cd, h]
      by_cases h2 : c = d <;> simp [h2]
    · rw [if_neg h]
      simp only [mget, eq2, cd, get2_put es c d v]
      by_cases h2 : p.1 = d
      · have : ¬ c = d := fun e => h (h2.trans e.symm)
        simp [h2, this]
      · simp [h2]
theorem put2_keys : ∀ (es : List (Spot × Int)) (c : Spot) (v : Int), ∀ s, s ∈ (mput K2 es c v).map (·.1) ↔ s = c ∨ s ∈ es.map (·.1)
  | [], c, v, s => by simp [mput]
  | p :: es, c, v, s => by
    rw [mput, eq2, cd]
    by_cases h : p.1 = c
    · rw [if_pos h]; subst h; simp
    · rw [if_neg h]
      simp only [List.map_cons, List.mem_cons, put2_keys es c v s]
      constructor
      · rintro (h | h | h) <;> simp [h]
      · rintro (h | h | h) <;> simp [h]
theorem put2_nodup : ∀ {es : List (Spot × Int)} (c : Spot) (v : Int), (es.map (·.1)).Nodup → ((mput K2 es c v).map (·.1)).Nodup
  | [], c, v, _ => by simp [mput]
  | p :: es, c, v, h => by
    rw [List.map_cons, List.nodup_cons] at h
    rw [mput, eq2, cd]
    by_cases hp : p.1 = c
    · rw [if_pos hp, List.map_cons, List.nodup_cons]; exact h
    · rw [if_neg hp, List.map_cons, List.nodup_cons]
      refine ⟨fun hm => ?_, put2_nodup c v h.2⟩
      rcases (put2_keys es c v p.1).1 hm with e | e
      · exact hp e
      · exact h.1 e
theorem put2_len : ∀ (es : List (Spot × Int)) (c : Spot) (v : Int), (mput K2 es c v).length ≤ es.length + 1
  | [], c, v => by simp [mput]
  | p :: es, c, v => by
    rw [mput, eq2, cd]
    by_cases hp : p.1 = c
    · rw [if_pos hp]; simp
    · rw [if_neg hp]
      have := put2_len es c v
      simp; omega
theorem get2_mem : ∀ {es : List (Spot × Int)}, (es.map (·.1)).Nodup → ∀ {p : Spot × Int}, p ∈ es → mget K2 es p.1 = some p.2
  | q :: es, h, p, hp => by
    rw [List.map_cons, List.nodup_cons] at h
    simp only [mget, eq2, cd]
    rcases List.mem_cons.1 hp with rfl | hp
    · rw [if_pos rfl]
    · rw [if_neg (fun e => h.1 (by rw [e]; exact List.mem_map_of_mem hp))]
      exact get2_mem h.2 hp
theorem get2_key : ∀ {es : List (Spot × Int)} {s : Spot} {v : Int}, mget K2 es s = some v → (s, v) ∈ es
  | q :: es, s, v, h => by
    simp only [mget, eq2, cd] at h
    by_cases e : q.1 = s
    · rw [if_pos e] at h; cases h; rw [← e]; simp
    · rw [if_neg e] at h; simp [get2_key h]
def putL (m : List (Spot × Int)) (x : Lnk) : List (Spot × Int) := mput K2 m (spt x) x.2.2
def spotsL (l : List Lnk) : List (Spot × Int) := l.foldl putL []
theorem foldl_keys : ∀ (l : List Lnk) (m : List (Spot × Int)), (m.map (·.1)).Nodup → ((l.foldl putL m).map (·.1)).Nodup
  | [], m, h => h
  | x :: l, m, h => foldl_keys l _ (put2_nodup _ _ h)
theorem foldl_len : ∀ (l : List Lnk) (m : List (Spot × Int)), (l.foldl putL m).length ≤ m.length + l.length
  | [], m => by simp
  | x :: l, m => by
    have h1 := foldl_len l (putL m x)
    have h2 := put2_len m (spt x) x.2.2
    simp only [List.foldl_cons, List.length_cons]
    unfold putL at h1 ⊢
    omega
theorem foldl_get : ∀ (l : List Lnk) (m : List (Spot × Int)) (s : Spot), mget K2 (l.foldl putL m) s = match lk l s with
    | some v => some v
    | none => mget K2 m s
  | [], m, s => by simp [lk]
  | x :: l, m, s => by
    rw [List.foldl_cons, foldl_get l (putL m x) s, lk]
    unfold putL
    rw [get2_put]
    cases lk l s with
    | some v => rfl
    | none =>
      by_cases h : spt x = s <;> simp [h]
theorem spots_keys (l : List Lnk) : ((spotsL l).map (·.1)).Nodup := foldl_keys l [] (by simp)
theorem spots_len (l : List Lnk) : (spotsL l).length ≤ l.length := by
  have := foldl_len l []
  rw [List.length_nil, Nat.zero_add] at this
  exact this
theorem spots_get (l : List Lnk) (s : Spot) : mget K2 (spotsL l) s = lk l s := by
  unfold spotsL
  rw [foldl_get]
  cases lk l s <;> rfl
theorem spots_mem {l : List Lnk} {p : Spot × Int} (h : p ∈ spotsL l) : lk l p.1 = some p.2 := by
  rw [← spots_get]; exact get2_mem (spots_keys l) h
theorem mem_spots {l : List Lnk} {s : Spot} {v : Int} (h : lk l s = some v) : (s, v) ∈ spotsL l := get2_key (by rw [spots_get]; exact h)

theorem spots_loop (N : Nat) (l : List Lnk) (hm : l.length ≤ 9223372036854775807) : ∀ (k i m : Nat) (es : List (Spot × Int)), i + k = l.length → k < m →
    l_splice_spots_1 N m (l, ((l.length : Nat) : Int), (i : Int), es) = some ((l.drop i).foldl putL es)
  | k, i, 0, es, h1, h2 => by omega
  | 0, i, m + 1, es, h1, h2 => by
    rw [l_splice_spots_1_s, cd, if_neg (by omega), List.drop_eq_nil_of_le (by omega)]; rfl
  | k + 1, i, m + 1, es, h1, h2 => by
    obtain ⟨x, hx⟩ := get_at (xs := l) (i := i) (by omega)
    rw [l_splice_spots_1_s, cd, if_pos (by omega), nth_of hx, ob, w64n (by omega), drop_at hx]
    exact spots_loop N l hm k (i + 1) m _ (by omega) (by omega)
theorem spots_eq (N : Nat) (hN : Fu + 1 ≤ N) (l : List Lnk) (hm : l.length ≤ 9223372036854775807) : m_splice_spots N l = some (spotsL l) := by
  obtain ⟨N, rfl⟩ : ∃ n, N = n + 1 := ⟨N - 1, by omega⟩
  rw [m_splice_spots_eq, show ((0 : Int) = ((0 : Nat) : Int)) from rfl, spots_loop N l hm l.length 0 N [] (by omega) (by have := Fu_eq; omega), ob, List.drop_zero]
  rfl

/-! through a map, in any order -/
theorem mask_bit (m : Int) (j i : Nat) : (maskI m j).toNat.testBit i = (m.toNat.testBit i || decide (i = j)) := by
  unfold maskI
  rw [Int.toNat_natCast, Nat.testBit_or, Nat.testBit_two_pow]
  congr 1
  by_cases h : i = j
  · simp [h]
  · simp [h, show ¬ j = i from fun e => h e.symm]
/-- places that are left, and for which P stands -/
def left (n : Nat) (m : Int) (P : Nat → Bool) : Nat := (List.range n).countP fun j => !m.toNat.testBit j && P j
theorem left_step (m : Int) (P : Nat → Bool) {j : Nat} (hb : m.toNat.testBit j = false) : ∀ n : Nat, left n m P = left n (maskI m j) P + if j < n ∧ P j = true then 1 else 0
  | 0 => by simp [left]
  | n + 1 => by
    have ih := left_step m P hb n
    unfold left at ih ⊢
    rw [List.range_succ, List.countP_append, List.countP_append, ih, List.countP_singleton, List.countP_singleton, mask_bit]
    by_cases hn : n = j
    · subst hn
      cases hp : P n <;> simp [hb]
    · simp only [hn, decide_false, Bool.or_false]
      by_cases h1 : j < n
      · have h2 : j < n + 1 := by omega
        simp only [h1, h2, true_and]; omega
      · have h2 : ¬ j < n + 1 := by omega
        simp [h1, h2]
theorem left_zero {n : Nat} {m : Int} {P : Nat → Bool} (h : left n m (fun _ => true) = 0) : (∀ j, j < n → m.toNat.testBit j = true) ∧ left n m P = 0 := by
  unfold left at h ⊢
  rw [List.countP_eq_zero] at h
  have h1 : ∀ j, j < n → m.toNat.testBit j = true := fun j hj => by simpa using h j (List.mem_range.2 hj)
  refine ⟨h1, List.countP_eq_zero.2 fun j hj => ?_⟩
  simp [h1 j (List.mem_range.1 hj)]
theorem left_pos {n : Nat} {m : Int} (h : 0 < left n m (fun _ => true)) : ∃ j, j < n ∧ m.toNat.testBit j = false := by
  unfold left at h
  obtain ⟨j, hj, hb⟩ := List.countP_pos_iff.1 h
  exact ⟨j, List.mem_range.1 hj, by simpa using hb⟩
theorem left_le (n : Nat) (m : Int) (P : Nat → Bool) : left n m P ≤ n := by
  unfold left
  have := List.countP_le_length (p := fun j => !m.toNat.testBit j && P j) (l := List.range n)
  simpa using this
def at? {α : Type} (es : List α) (t : α → Bool) (j : Nat) : Bool := match es[j]? with
  | some x => t x
  | none => false
/-- at the start all are left -/
theorem left_all {α : Type} (es : List α) (p : α → Bool) : left es.length 0 (at? es p) = es.countP p := by
  unfold left at?
  simp only [Int.toNat_zero, Nat.zero_testBit, Bool.not_false, Bool.true_and]
  have key : ∀ k, k ≤ es.length → (List.range k).countP (fun j => match es[j]? with
    | some x => p x
    | none => false) = (es.take k).countP p := by
    intro k
    induction k with
    | zero => intro _; rfl
    | succ k ih =>
      intro hk
      obtain ⟨x, hx⟩ := get_at (xs := es) (i := k) (by omega)
      rw [List.range_succ, List.countP_append, ih (by omega), take_at hx, List.countP_append, List.countP_singleton, List.countP_singleton, hx]
  have := key es.length (Nat.le_refl _)
  rw [List.take_length] at this
  exact this

def tst1 (y : List (Spot × Int)) (p : Spot × Int) : Bool := decide (mget K2 y p.1 ≠ some p.2)
def tst2 (x : List (Spot × Int)) (p : Spot × Int) : Bool := (mget K2 x p.1).isNone
theorem ch_loop1 (N : Nat) (x y : List (Spot × Int)) : ∀ (u : Nat) (fl : Nat) (m c : Int) (cur : Int), left x.length m (fun _ => true) = u → u < fl → 0 ≤ c →
    c + u ≤ 1000000000000 → l_splice_Changed_1 N fl (c, x, y, ((x.length : Nat) : Int), m, cur) = some (c + ((left x.length m (at? x (tst1 y)) : Nat) : Int), x, y)
  | u, 0, m, c, cur, h1, h2, _, _ => by omega
  | 0, fl + 1, m, c, cur, h1, h2, hc, hcu => by
    obtain ⟨h3, h4⟩ := left_zero (P := at? x (tst1 y)) h1
    rw [l_splice_Changed_1_s, cd, if_pos rfl, dAll_over h3, h4]
    simp
  | u + 1, fl + 1, m, c, cur, h1, h2, hc, hcu => by
    obtain ⟨j0, hj0, hb0⟩ := left_pos (n := x.length) (m := m) (by omega)
    rw [l_splice_Changed_1_s, cd, if_pos rfl]
    refine dAll_of hj0 hb0 fun j hj hb => ?_
    obtain ⟨e, he⟩ := get_at (xs := x) (i := j) hj
    have hu : left x.length (maskI m j) (fun _ => true) = u := by
      have := left_step m (fun _ => true) hb x.length
      simp only [hj, and_self, if_true] at this
      omega
    have hs := left_step m (at? x (tst1 y)) hb x.length
    have hat : at? x (tst1 y) j = tst1 y e := by simp [at?, he]
    rw [hat] at hs
    have ih := fun (c' : Int) (h0 : 0 ≤ c') (h1' : c' + u ≤ 1000000000000) => ch_loop1 N x y u fl (maskI m j) c' (Int.ofNat j) hu (by omega) h0 h1'
    rw [cd, if_pos rfl, show (Int.ofNat j) = ((j : Nat) : Int) from rfl, nth_of he, ob]
    have hw : IntKind.wrap .i64 (c + 1) = c + 1 := w64 (by omega) (by omega)
    have i1 := ih (c + 1) (by omega) (by omega)
    have i0 := ih c hc (by omega)
    have hp : (e.1.1, e.1.2) = e.1 := rfl
    rw [hp, hw]
    rw [show (Int.ofNat j) = ((j : Nat) : Int) from rfl] at i1 i0
    rw [i1, i0]
    cases hg : mget K2 y e.1 with
    | none =>
      have ht : tst1 y e = true := by unfold tst1; rw [hg]; simp
      simp only [Option.isSome_none, Bool.not_false, cond_true]
      simp only [hj, ht, and_self, if_true] at hs
      rw [hs]
      congr 2
      omega
    | some v =>
      simp only [Option.isSome_some, Bool.not_true, cond_false, Option.getD_some, cdn]
      by_cases hv : v = e.2
      · rw [if_pos hv]
        have ht : tst1 y e = false := by unfold tst1; rw [hg]; simp [hv]
        simp only [hj, ht, Bool.false_eq_true, and_false, if_false, Nat.add_zero] at hs
        rw [hs]
      · rw [if_neg hv]
        have ht : tst1 y e = true := by unfold tst1; rw [hg]; simp [hv]
        simp only [hj, ht, and_self, if_true] at hs
        rw [hs]
        congr 2
        omega
theorem ch_loop2 (N : Nat) (x y : List (Spot × Int)) : ∀ (u : Nat) (fl : Nat) (m c : Int) (cur : Int), left y.length m (fun _ => true) = u → u < fl → 0 ≤ c →
    c + u ≤ 1000000000000 → l_splice_Changed_2 N fl (c, x, ((y.length : Nat) : Int), m, cur, y) = some (c + ((left y.length m (at? y (tst2 x)) : Nat) : Int))
  | u, 0, m, c, cur, h1, h2, _, _ => by omega
  | 0, fl + 1, m, c, cur, h1, h2, hc, hcu => by
    obtain ⟨h3, h4⟩ := left_zero (P := at? y (tst2 x)) h1
    rw [l_splice_Changed_2_s, cd, if_pos rfl, dAll_over h3, h4]
    simp
  | u + 1, fl + 1, m, c, cur, h1, h2, hc, hcu => by
    obtain ⟨j0, hj0, hb0⟩ := left_pos (n := y.length) (m := m) (by omega)
    rw [l_splice_Changed_2_s, cd, if_pos rfl]
    refine dAll_of hj0 hb0 fun j hj hb => ?_
    obtain ⟨e, he⟩ := get_at (xs := y) (i := j) hj
    have hu : left y.length (maskI m j) (fun _ => true) = u := by
      have := left_step m (fun _ => true) hb y.length
      simp only [hj, and_self, if_true] at this
      omega
    have hs := left_step m (at? y (tst2 x)) hb y.length
    have hat : at? y (tst2 x) j = tst2 x e := by simp [at?, he]
    rw [hat] at hs
    have ih := fun (c' : Int) (h0 : 0 ≤ c') (h1' : c' + u ≤ 1000000000000) => ch_loop2 N x y u fl (maskI m j) c' (Int.ofNat j) hu (by omega) h0 h1'
    rw [cd, if_pos rfl, show (Int.ofNat j) = ((j : Nat) : Int) from rfl, nth_of he, ob]
    have hw : IntKind.wrap .i64 (c + 1) = c + 1 := w64 (by omega) (by omega)
    have i1 := ih (c + 1) (by omega) (by omega)
    have i0 := ih c hc (by omega)
    have hp : (e.1.1, e.1.2) = e.1 := rfl
    rw [hp, hw]
    rw [show (Int.ofNat j) = ((j : Nat) : Int) from rfl] at i1 i0
    rw [i1, i0]
    cases hg : mget K2 x e.1 with
    | none =>
      have ht : tst2 x e = true := by unfold tst2; rw [hg]; rfl
      simp only [Option.isSome_none, Bool.not_false, cond_true]
      simp only [hj, ht, and_self, if_true] at hs
      rw [hs]
      congr 1
      omega
    | some v =>
      have ht : tst2 x e = false := by unfold tst2; rw [hg]; rfl
      simp only [Option.isSome_some, Bool.not_true, cond_false]
      simp only [hj, ht, Bool.false_eq_true, and_false, if_false, Nat.add_zero] at hs
      rw [hs]
/-- the spots at which two lists tell otherwise -/
def chgL (a b : List Lnk) : List Spot := ((spotsL a).filter (fun p => decide (lk b p.1 ≠ some p.2))).map (·.1) ++ ((spotsL b).filter (fun p => (lk a p.1).isNone)).map (·.1)
def chg (a b : List Lnk) : Nat := (chgL a b).length
theorem left_start (n : Nat) : left n 0 (fun _ => true) = n := by
  unfold left
  rw [List.countP_eq_length.2 (fun j _ => by simp), List.length_range]
theorem changed_eq (N : Nat) (hN : Fu + 2 ≤ N) (a b : List Lnk) (ha : a.length ≤ 100000000) (hb : b.length ≤ 100000000) : m_splice_Changed N (a, b) = some ((chg a b : Nat) : Int) := by
  obtain ⟨N, rfl⟩ : ∃ n, N = n + 1 := ⟨N - 1, by omega⟩
  have hla := spots_len a
  have hlb := spots_len b
  have l1 := ch_loop1 N (spotsL a) (spotsL b) (spotsL a).length N 0 0 (-1) (left_start _) (by have := Fu_eq; omega) (by omega) (by omega)
  have hle := left_le (spotsL a).length 0 (at? (spotsL a) (tst1 (spotsL b)))
  have l2 := ch_loop2 N (spotsL a) (spotsL b) (spotsL b).length N 0 (0 + ((left (spotsL a).length 0 (at? (spotsL a) (tst1 (spotsL b))) : Nat) : Int)) (-1) (left_start _) (by have := Fu_eq; omega) (by omega) (by omega)
  have c1 : left (spotsL a).length 0 (at? (spotsL a) (tst1 (spotsL b))) = (spotsL a).countP (tst1 (spotsL b)) := left_all _ _
  have c2 : left (spotsL b).length 0 (at? (spotsL b) (tst2 (spotsL a))) = (spotsL b).countP (tst2 (spotsL a)) := left_all _ _
  have e0 : (((0 : Nat) : Int), (-((1 : Nat) : Int))) = ((0 : Int), (-1 : Int)) := rfl
  rw [m_splice_Changed_eq, spots_eq N (by omega) a (by omega), ob, spots_eq N (by omega) b (by omega), ob]
  have e1 : l_splice_Changed_1 N N ((0 : Int), (spotsL a, (spotsL b, ((((List.length (spotsL a)) : Nat) : Int), ((0 : Nat), (-(1 : Nat))))))) = _ := l1
  rw [e1, ob]
  have e2 : l_splice_Changed_2 N N (0 + ((left (spotsL a).length 0 (at? (spotsL a) (tst1 (spotsL b))) : Nat) : Int), (spotsL a, ((((List.length (spotsL b)) : Nat) : Int), ((0 : Nat), ((-(1 : Nat)), spotsL b))))) = _ := l2
  rw [e2, ob, c1, c2]
  congr 1
  unfold chg chgL
  rw [List.length_append, List.length_map, List.length_map, ← List.countP_eq_length_filter, ← List.countP_eq_length_filter]
  have t1 : (spotsL a).countP (tst1 (spotsL b)) = (spotsL a).countP (fun p => decide (lk b p.1 ≠ some p.2)) := List.countP_congr fun p _ => by unfold tst1; rw [spots_get]
  have t2 : (spotsL b).countP (tst2 (spotsL a)) = (spotsL b).countP (fun p => (lk a p.1).isNone) := List.countP_congr fun p _ => by unfold tst2; rw [spots_get]
  rw [t1, t2]
  omega
theorem chgL_mem {a b : List Lnk} {s : Spot} : s ∈ chgL a b ↔ lk a s ≠ lk b s := by
  unfold chgL
  rw [List.mem_append, List.mem_map, List.mem_map]
  constructor
  · rintro (⟨p, hp, rfl⟩ | ⟨p, hp, rfl⟩)
    · rw [List.mem_filter] at hp
      rw [spots_mem hp.1]
      have := of_decide_eq_true hp.2
      exact fun e => this e.symm
    · rw [List.mem_filter] at hp
      rw [spots_mem hp.1, Option.isNone_iff_eq_none.1 hp.2]
      simp
  · intro h
    cases ha : lk a s with
    | some v =>
      refine .inl ⟨(s, v), List.mem_filter.2 ⟨mem_spots ha, ?_⟩, rfl⟩
      simp only [decide_eq_true_eq]
      intro e
      exact h (ha.trans e.symm)
    | none =>
      cases hb : lk b s with
      | none => exact absurd (ha.trans hb.symm) h
      | some v => exact .inr ⟨(s, v), List.mem_filter.2 ⟨mem_spots hb, by simp [ha]⟩, rfl⟩
theorem chgL_nodup (a b : List Lnk) : (chgL a b).Nodup := by
  unfold chgL
  rw [List.nodup_append]
  refine ⟨((List.filter_sublist).map _).nodup (spots_keys a), ((List.filter_sublist).map _).nodup (spots_keys b), fun s hs t ht e => ?_⟩
  subst e
  obtain ⟨p, hp, e1⟩ := List.mem_map.1 hs
  obtain ⟨q, hq, e2⟩ := List.mem_map.1 ht
  rw [List.mem_filter] at hp hq
  have h1 := spots_mem hp.1
  have h2 := Option.isNone_iff_eq_none.1 hq.2
  rw [e2, ← e1, h1] at h2
  cases h2
/-- any list of just these spots is as long -/
theorem chg_of {a b : List Lnk} {L : List Spot} (hn : L.Nodup) (h : ∀ s, s ∈ L ↔ lk a s ≠ lk b s) : chg a b = L.length :=
  ((List.perm_ext_iff_of_nodup (chgL_nodup a b) hn).2 fun s => chgL_mem.trans (h s).symm).length_eq
theorem sub_len {α : Type} [DecidableEq α] : ∀ {a b : List α}, a.Nodup → (∀ x ∈ a, x ∈ b) → a.length ≤ b.length
  | [], b, _, _ => by simp
  | x :: a, b, hn, h => by
    rw [List.nodup_cons] at hn
    have h1 := h x (by simp)
    have ih := sub_len (a := a) (b := b.erase x) hn.2 fun y hy => (List.mem_erase_of_ne (fun e => hn.1 (by rw [← e]; exact hy))).2 (h y (by simp [hy]))
    rw [List.length_erase_of_mem h1] at ih
    have := List.length_pos_of_mem h1
    simp; omega
theorem chg_le {a b : List Lnk} {L : List Spot} (h : ∀ s, lk a s ≠ lk b s → s ∈ L) : chg a b ≤ L.length := sub_len (chgL_nodup a b) fun s hs => h s (chgL_mem.1 hs)
theorem chg_comm (a b : List Lnk) : chg a b = chg b a := chg_of (chgL_nodup b a) fun s => chgL_mem.trans ⟨fun h e => h e.symm, fun h e => h e.symm⟩
theorem chg_same {a b : List Lnk} (h : ∀ s, lk a s = lk b s) : chg a b = 0 := chg_of (L := []) (by simp) fun s => by simp [h s]
theorem chg_most (a b : List Lnk) : chg a b ≤ a.length + b.length := by
  have h1 := spots_len a
  have h2 := spots_len b
  have h3 := List.length_filter_le (fun p : Spot × Int => decide (lk b p.1 ≠ some p.2)) (spotsL a)
  have h4 := List.length_filter_le (fun p : Spot × Int => (lk a p.1).isNone) (spotsL b)
  unfold chg chgL
  rw [List.length_append, List.length_map, List.length_map]
  omega
end Go.Proofs.Ytggnolfcgaglfaa
/-! How many links are others: the document's answer. -/
namespace Go.Proofs.Ytggnolfcgaglfaa
open Go Go.RowKit

def lastOf (o : Option Int) (to : Int) (ok : Bool) : Int × Bool := match o with
  | some v => (v, true)
  | none => (to, ok)
theorem last_loop (N : Nat) (l : List Lnk) (tk lv : Int) (hm : l.length ≤ 9223372036854775807) : ∀ (k i m : Nat) (to : Int) (ok : Bool), i + k = l.length → k < m →
    l_ref15_last_1 N m (l, tk, lv, to, ok, (i : Int)) = some (lastOf (lk (l.drop i) (tk, lv)) to ok)
  | k, i, 0, to, ok, h1, h2 => by omega
  | 0, i, m + 1, to, ok, h1, h2 => by
    rw [l_ref15_last_1_s, cd, if_neg (by omega), List.drop_eq_nil_of_le (by omega)]; rfl
  | k + 1, i, m + 1, to, ok, h1, h2 => by
    obtain ⟨x, hx⟩ := get_at (xs := l) (i := i) (by omega)
    have ih := fun to ok => last_loop N l tk lv hm k (i + 1) m to ok (by omega) (by omega)
    rw [l_ref15_last_1_s, cd, if_pos (by omega), nth_of hx, ob, cd, ob, cd, ob, w64n (by omega), ih, ih, drop_at hx, lk]
    by_cases h1 : x.1 = tk
    · rw [if_pos h1]
      by_cases h2 : x.2.1 = lv
      · rw [if_pos h2]
        have : spt x = (tk, lv) := by unfold spt; rw [h1, h2]
        cases lk (l.drop (i + 1)) (tk, lv) with
        | some v => rfl
        | none => simp [lastOf, this]
      · rw [if_neg h2]
        have : ¬ spt x = (tk, lv) := fun e => h2 (congrArg Prod.snd e)
        cases lk (l.drop (i + 1)) (tk, lv) with
        | some v => rfl
        | none => simp [lastOf, this]
    · rw [if_neg h1]
      have : ¬ spt x = (tk, lv) := fun e => h1 (congrArg Prod.fst e)
      cases lk (l.drop (i + 1)) (tk, lv) with
      | some v => rfl
      | none => simp [lastOf, this]
theorem last_eq (N : Nat) (hN : Fu + 1 ≤ N) (l : List Lnk) (tk lv : Int) (hm : l.length ≤ 9223372036854775807) : m_ref15_last N (l, tk, lv) = some (lastOf (lk l (tk, lv)) 0 false) := by
  obtain ⟨N, rfl⟩ : ∃ n, N = n + 1 := ⟨N - 1, by omega⟩
  rw [m_ref15_last_eq, show ((0 : Int), (false, (0 : Int))) = ((0 : Int), (false, ((0 : Nat) : Int))) from rfl, last_loop N l tk lv hm l.length 0 N 0 false (by omega) (by have := Fu_eq; omega), ob, List.drop_zero]
/-- the spots that were not met, each once -/
def fsts : List Lnk → List Lnk → List Spot
  | _, [] => []
  | seen, x :: l => if (lk seen (spt x)).isSome then fsts (seen ++ [x]) l else spt x :: fsts (seen ++ [x]) l
theorem lk_cons_ne {x : Lnk} {l : List Lnk} {s : Spot} : lk (x :: l) s ≠ none ↔ spt x = s ∨ lk l s ≠ none := by
  rw [lk]
  cases lk l s with
  | some v => simp
  | none => by_cases h : spt x = s <;> simp [h]
theorem fsts_mem : ∀ (l seen : List Lnk) (s : Spot), s ∈ fsts seen l ↔ lk seen s = none ∧ lk l s ≠ none
  | [], seen, s => by simp [fsts, lk]
  | x :: l, seen, s => by
    rw [fsts, lk_cons_ne]
    have hs := lk_snoc seen x s
    split
    · rename_i h
      rw [fsts_mem l, hs]
      by_cases e : spt x = s
      · subst e
        cases h0 : lk seen (spt x) with
        | none => rw [h0] at h; cases h
        | some v => simp
      · simp [e]
    · rename_i h
      rw [List.mem_cons, fsts_mem l, hs]
      by_cases e : spt x = s
      · subst e
        cases h0 : lk seen (spt x) with
        | none => simp
        | some v => rw [h0] at h; simp at h
      · simp [e, show ¬ s = spt x from fun e' => e e'.symm]
theorem fsts_nodup : ∀ (l seen : List Lnk), (fsts seen l).Nodup
  | [], seen => by simp [fsts]
  | x :: l, seen => by
    rw [fsts]
    split
    · exact fsts_nodup l _
    · rw [List.nodup_cons]
      refine ⟨fun h => ?_, fsts_nodup l _⟩
      have := ((fsts_mem l _ _).1 h).1
      rw [lk_snoc, if_pos rfl] at this
      cases this
def dif1 (a b : List Lnk) (s : Spot) : Bool := decide (lk a s ≠ lk b s)
def dif2 (a : List Lnk) (s : Spot) : Bool := (lk a s).isNone
theorem rch_loop1 (N : Nat) (hN : Fu + 1 ≤ N) (a b : List Lnk) (hm : a.length ≤ 1000000000) (hb : b.length ≤ 1000000000) : ∀ (k i m : Nat) (n : Int), i + k = a.length → k < m → 0 ≤ n → n ≤ i →
    l_ref15_Changed_1 N m (a, b, n, (i : Int)) = some (a, b, n + (((fsts (a.take i) (a.drop i)).countP (dif1 a b) : Nat) : Int))
  | k, i, 0, n, h1, h2, h3, h4 => by omega
  | 0, i, m + 1, n, h1, h2, h3, h4 => by
    rw [l_ref15_Changed_1_s, cd, if_neg (by omega), List.drop_eq_nil_of_le (by omega), fsts]; simp
  | k + 1, i, m + 1, n, h1, h2, h3, h4 => by
    obtain ⟨x, hx⟩ := get_at (xs := a) (i := i) (by omega)
    have ih := fun n h3 h4 => rch_loop1 N hN a b hm hb k (i + 1) m n (by omega) (by omega) h3 h4
    have ht : (a.take i).length ≤ 9223372036854775807 := by simp; omega
    rw [l_ref15_Changed_1_s, cd, if_pos (by omega), sub_take (by omega) (by omega), ob, nth_of hx, ob, ob, Int.toNat_natCast, last_eq N hN _ _ _ ht, ob, ob, ob, last_eq N hN a _ _ (by omega), ob, ob, ob, last_eq N hN b _ _ (by omega), ob, cdn, w64n (by omega), w64 (x := n + 1) (by omega) (by omega), ih (n + 1) (by omega) (by omega), ih n (by omega) (by omega), drop_at hx, fsts, take_at hx]
    have hp : (x.1, x.2.1) = spt x := rfl
    rw [hp]
    have ha := lk_some_of (List.mem_of_getElem? hx)
    cases hs : lk (a.take i) (spt x) with
    | some v => simp [lastOf]
    | none =>
      simp only [lastOf, Bool.not_false, cond_true, Option.isSome_none, Bool.false_eq_true, if_false, List.countP_cons]
      cases h0 : lk a (spt x) with
      | none => exact absurd h0 ha
      | some v =>
        cases h1 : lk b (spt x) with
        | none =>
          have : dif1 a b (spt x) = true := by unfold dif1; rw [h0, h1]; simp
          simp only [this, if_true, Bool.not_false, cond_true]
          congr 3
          omega
        | some w =>
          simp only [Bool.not_true, cond_false]
          by_cases e : v = w
          · have : dif1 a b (spt x) = false := by unfold dif1; rw [h0, h1, e]; simp
            simp [this, e]
          · have : dif1 a b (spt x) = true := by unfold dif1; rw [h0, h1]; simp [e]
            simp only [e, if_false, this, if_true]
            congr 3
            omega
theorem rch_loop2 (N : Nat) (hN : Fu + 1 ≤ N) (a b : List Lnk) (hm : a.length ≤ 1000000000) (hb : b.length ≤ 1000000000) : ∀ (k i m : Nat) (n : Int), i + k = b.length → k < m → 0 ≤ n → n ≤ 1000000000 + i →
    l_ref15_Changed_2 N m (a, b, n, (i : Int)) = some (n + (((fsts (b.take i) (b.drop i)).countP (dif2 a) : Nat) : Int))
  | k, i, 0, n, h1, h2, h3, h4 => by omega
  | 0, i, m + 1, n, h1, h2, h3, h4 => by
    rw [l_ref15_Changed_2_s, cd, if_neg (by omega), List.drop_eq_nil_of_le (by omega), fsts]; simp
  | k + 1, i, m + 1, n, h1, h2, h3, h4 => by
    obtain ⟨x, hx⟩ := get_at (xs := b) (i := i) (by omega)
    have ih := fun n h3 h4 => rch_loop2 N hN a b hm hb k (i + 1) m n (by omega) (by omega) h3 h4
    have ht : (b.take i).length ≤ 9223372036854775807 := by simp; omega
    rw [l_ref15_Changed_2_s, cd, if_pos (by omega), sub_take (by omega) (by omega), ob, nth_of hx, ob, ob, Int.toNat_natCast, last_eq N hN _ _ _ ht, ob, ob, ob, last_eq N hN a _ _ (by omega), ob, w64n (by omega), w64 (x := n + 1) (by omega) (by omega), ih (n + 1) (by omega) (by omega), ih n (by omega) (by omega), drop_at hx, fsts, take_at hx]
    have hp : (x.1, x.2.1) = spt x := rfl
    rw [hp]
    cases hs : lk (b.take i) (spt x) with
    | some v => simp [lastOf]
    | none =>
      simp only [lastOf, Bool.not_false, cond_true, Option.isSome_none, Bool.false_eq_true, if_false, List.countP_cons]
      cases h0 : lk a (spt x) with
      | none =>
        have : dif2 a (spt x) = true := by unfold dif2; rw [h0]; rfl
        simp only [this, if_true, Bool.not_false, cond_true]
        congr 1
        omega
      | some v =>
        have : dif2 a (spt x) = false := by unfold dif2; rw [h0]; rfl
        simp [this]
theorem fsts_len : ∀ (l seen : List Lnk), (fsts seen l).length ≤ l.length
  | [], seen => by simp [fsts]
  | x :: l, seen => by
    have := fsts_len l (seen ++ [x])
    rw [fsts]
    split
    · simp; omega
    · simp; omega
theorem rchanged_eq (N : Nat) (hN : Fu + 2 ≤ N) (a b : List Lnk) (ha : a.length ≤ 100000000) (hb : b.length ≤ 100000000) : m_ref15_Changed N (a, b) = some ((chg a b : Nat) : Int) := by
  obtain ⟨N, rfl⟩ : ∃ n, N = n + 1 := ⟨N - 1, by omega⟩
  have l1 := rch_loop1 N (by omega) a b (by omega) (by omega) a.length 0 N 0 (by omega) (by have := Fu_eq; omega) (by omega) (by omega)
  rw [List.take_zero, List.drop_zero] at l1
  have hle := List.countP_le_length (p := dif1 a b) (l := fsts [] a)
  have hl := fsts_len a []
  have l2 := rch_loop2 N (by omega) a b (by omega) (by omega) b.length 0 N (0 + (((fsts [] a).countP (dif1 a b) : Nat) : Int)) (by omega) (by have := Fu_eq; omega) (by omega) (by omega)
  rw [List.take_zero, List.drop_zero] at l2
  rw [show ((0 : Nat) : Int) = 0 from rfl] at l1 l2
  rw [m_ref15_Changed_eq, l1, ob, l2, ob]
  congr 1
  have := chg_of (a := a) (b := b) (L := (fsts [] a).filter (dif1 a b) ++ (fsts [] b).filter (dif2 a)) (by
    rw [List.nodup_append]
    refine ⟨(List.filter_sublist).nodup (fsts_nodup a []), (List.filter_sublist).nodup (fsts_nodup b []), fun s hs t ht e => ?_⟩
    subst e
    rw [List.mem_filter, fsts_mem] at hs ht
    exact hs.1.2 (Option.isNone_iff_eq_none.1 ht.2)) (fun s => by
    rw [List.mem_append, List.mem_filter, List.mem_filter, fsts_mem, fsts_mem]
    unfold dif1 dif2
    rw [decide_eq_true_eq, Option.isNone_iff_eq_none]
    simp only [lk, true_and]
    constructor
    · rintro (⟨_, h⟩ | ⟨h1, h2⟩)
      · exact h
      · rw [h2]; exact fun e => h1 e.symm
    · intro h
      by_cases h0 : lk a s = none
      · exact .inr ⟨fun e => h (h0.trans e.symm), h0⟩
      · exact .inl ⟨h0, h⟩)
  rw [this, List.length_append, ← List.countP_eq_length_filter, ← List.countP_eq_length_filter]
  omega
theorem spliceChanged_of (N : Nat) (hN : Fu + 3 ≤ N) (hal : m_law15_alive (N - 1) () = some true) (a b : List Lnk) : m_law15_SpliceChanged N (a, b) = some true := by
  obtain ⟨N, rfl⟩ : ∃ n, N = n + 1 := ⟨N - 1, by omega⟩
  rw [m_law15_SpliceChanged_eq, show m_law15_alive N () = some true from hal, ob, Bool.not_true, cond_false, cd, cd]
  split
  · rfl
  · split
    · rfl
    · have hc := chg_most a b
      rw [changed_eq N (by omega) a b (by omega) (by omega), ob, rchanged_eq N (by omega) a b (by omega) (by omega), ob, cd, if_pos rfl, changed_eq N (by omega) b a (by omega) (by omega), ob, cd, if_pos (by rw [chg_comm]), changed_eq N (by omega) a a (by omega) (by omega), ob, chg_same (a := a) (b := a) (fun _ => rfl), cd, if_pos (show (((0 : Nat)) : Int) = 0 from rfl), w64 (by omega) (by omega)]
      congr 1
      rw [decide_eq_true_eq]
      omega
end Go.Proofs.Ytggnolfcgaglfaa
/-! Towers, joined, cut and turned: what the program's functions and the document's compute, told plainly. -/
namespace Go.Proofs.Ytggnolfcgaglfaa
open Go Go.RowKit

abbrev Tow := List Int × List Int × List (List Int)
def hgt (ts hs : List Int) (z : Int) : Int := if z ∈ ts then hAt hs (ix ts z) else 0
theorem hgt_at {ts hs : List Int} (h : TowR ts hs) {i : Nat} {z : Int} (hz : ts[i]? = some z) : hgt ts hs z = hAt hs i := by
  rw [hgt, if_pos (List.mem_of_getElem? hz), ix_at h.2.2.1.2.2 hz]
theorem hgt_in {ts hs : List Int} (h : TowR ts hs) {z : Int} (hz : z ∈ ts) : 1 ≤ hgt ts hs z ∧ hgt ts hs z ≤ 8 := by
  rw [hgt, if_pos hz]
  exact high_at h.2.2.2 (by rw [h.2.1]; exact ix_lt hz)
theorem hgt_out {ts hs : List Int} {z : Int} (hz : z ∉ ts) : hgt ts hs z = 0 := if_neg hz
theorem hgt_map {ts hs : List Int} (h : TowR ts hs) : ts.map (hgt ts hs) = hs := by
  apply List.ext_getElem?
  intro i
  rw [List.getElem?_map]
  by_cases hi : i < ts.length
  · obtain ⟨z, hz⟩ := get_at hi
    rw [hz, Option.map_some, hgt_at h hz, hAt_get (by rw [h.2.1]; exact hi)]
  · rw [List.getElem?_eq_none (by omega), List.getElem?_eq_none (by rw [h.2.1]; omega)]; rfl
/-- of tokens, whose heights a law tells -/
def towOf (l : List Int) (H : Int → Int) : Tow := (buildOf l (l.map H)).2
theorem towR_of {l : List Int} {H : Int → Int} (h1 : RingR l) (h2 : l ≠ []) (h3 : ∀ z ∈ l, 1 ≤ H z ∧ H z ≤ 8) : TowR l (l.map H) :=
  ⟨h2, by simp, h1, fun h hh => by obtain ⟨z, hz, rfl⟩ := List.mem_map.1 hh; exact h3 z hz⟩
theorem towOf_pos {l : List Int} {H : Int → Int} (h : TowR l (l.map H)) : towOf l H = (l, l.map H, nextOf (l.map H)) := by
  rw [towOf, buildOf, if_pos h]
theorem towOf_nil (H : Int → Int) : towOf [] H = ([], [], []) := by
  rw [towOf, buildOf, if_neg (fun h => h.1 rfl)]
theorem towOf_congr {l : List Int} {H G : Int → Int} (h : ∀ z ∈ l, H z = G z) : towOf l H = towOf l G := by
  unfold towOf; rw [List.map_congr_left h]
theorem towOf_self {ts hs : List Int} (h : TowR ts hs) : towOf ts (hgt ts hs) = (ts, hs, nextOf hs) := by
  rw [towOf, hgt_map h, buildOf, if_pos h]
theorem hgt_of {l : List Int} {H : Int → Int} (h : TowR l (l.map H)) {z : Int} (hz : z ∈ l) : hgt l (l.map H) z = H z := by
  rw [hgt_at h (ix_get hz)]
  exact hAt_of (by rw [List.getElem?_map, ix_get hz]; rfl)

/-! what is known of heights -/
theorem hts2 (N : Nat) (v9 : List Tow) (v10 v11 : Int) (ts hs : List Int) (nx : List (List Int)) (h : TowR ts hs) : ∀ (k i m : Nat) (v3 : List (Int × Int)), i + k = ts.length → k < m →
    ∃ es, l_splice_heights_2 N m (v9, v10, v11, ts, ((ts.length : Nat) : Int), (i : Int), v3, ts, hs, nx) = some (v9, v10, v11, es) ∧ ∀ z, mget (.i .i64) es z = if z ∈ ts.drop i then some (hgt ts hs z) else mget (.i .i64) v3 z
  | k, i, 0, v3, h1, h2 => by omega
  | 0, i, m + 1, v3, h1, h2 => by
    refine ⟨v3, ?_, fun z => ?_⟩
    · rw [l_splice_heights_2_s, cd, if_neg (by omega)]
    · rw [List.drop_eq_nil_of_le (by omega)]; simp
  | k + 1, i, m + 1, v3, h1, h2 => by
    obtain ⟨x, hx⟩ := get_at (xs := ts) (i := i) (by omega)
    have hl := h.2.2.1.1
    have hh := hAt_get (hs := hs) (j := i) (by rw [h.2.1]; omega)
    obtain ⟨es, e1, e2⟩ := hts2 N v9 v10 v11 ts hs nx h k (i + 1) m (mput (.i .i64) v3 x (hAt hs i)) (by omega) (by omega)
    refine ⟨es, ?_, fun z => ?_⟩
    · rw [l_splice_heights_2_s, cd, if_pos (by omega), nth_of hx, ob, nth_of hh, ob, w64n (by omega)]
      exact e1
    · rw [e2 z, drop_at hx, get_put]
      have hg := hgt_at h hx
      by_cases hz : z ∈ ts.drop (i + 1)
      · simp [hz]
      · by_cases hxz : x = z
        · subst hxz; simp [hz, hg]
        · simp [hz, hxz, show ¬ z = x from fun e => hxz e.symm]
theorem heights1_eq (N : Nat) (hN : Fu + 3 ≤ N) (ts hs : List Int) (nx : List (List Int)) (h : TowR ts hs) : ∃ es, m_splice_heights N [(ts, hs, nx)] = some es ∧ ∀ z, mget (.i .i64) es z = if z ∈ ts then some (hgt ts hs z) else none := by
  obtain ⟨N, rfl⟩ : ∃ n, N = n + 3 := ⟨N - 3, by omega⟩
  have hl := h.2.2.1.1
  obtain ⟨es, e1, e2⟩ := hts2 (N + 2) [(ts, hs, nx)] 1 ((0 : Nat) : Int) ts hs nx h ts.length 0 (N + 2) [] (by omega) (by have := Fu_eq; omega)
  refine ⟨es, ?_, fun z => by rw [e2 z, List.drop_zero]; rfl⟩
  rw [m_splice_heights_eq, l_splice_heights_1_s]
  rw [show ((((List.length [(ts, hs, nx)]) : Nat) : Int)) = 1 from rfl, cd, if_pos (by omega), show nthI [(ts, hs, nx)] (0 : Int) = some (ts, hs, nx) from rfl, ob]
  rw [show (0 : Int) = ((0 : Nat) : Int) from rfl]
  dsimp only
  rw [e1, ob]
  dsimp only
  rw [show IntKind.wrap .i64 ((((0 : Nat) : Int)) + 1) = 1 from by rw [w64 (by omega) (by omega)]; rfl, l_splice_heights_1_s, cd, if_neg (by omega)]
  rfl
theorem heights2_eq (N : Nat) (hN : Fu + 4 ≤ N) (a a2 : List Int) (a3 : List (List Int)) (b b2 : List Int) (b3 : List (List Int)) (ha : TowR a a2) (hb : TowR b b2) : ∃ es, m_splice_heights N [(a, a2, a3), (b, b2, b3)] = some es ∧ ∀ z, mget (.i .i64) es z = if z ∈ b then some (hgt b b2 z) else if z ∈ a then some (hgt a a2 z) else none := by
  obtain ⟨N, rfl⟩ : ∃ n, N = n + 4 := ⟨N - 4, by omega⟩
  have hl := ha.2.2.1.1
  have hl2 := hb.2.2.1.1
  obtain ⟨es, e1, e2⟩ := hts2 (N + 3) [(a, a2, a3), (b, b2, b3)] 2 ((0 : Nat) : Int) a a2 a3 ha a.length 0 (N + 3) [] (by omega) (by have := Fu_eq; omega)
  obtain ⟨es', f1, f2⟩ := hts2 (N + 3) [(a, a2, a3), (b, b2, b3)] 2 1 b b2 b3 hb b.length 0 (N + 3) es (by omega) (by have := Fu_eq; omega)
  refine ⟨es', ?_, fun z => by rw [f2 z, e2 z, List.drop_zero, List.drop_zero]; rfl⟩
  rw [m_splice_heights_eq, l_splice_heights_1_s]
  rw [show ((((List.length [(a, a2, a3), (b, b2, b3)]) : Nat) : Int)) = 2 from rfl, cd, if_pos (by omega), show nthI [(a, a2, a3), (b, b2, b3)] (0 : Int) = some (a, a2, a3) from rfl, ob]
  rw [show (0 : Int) = ((0 : Nat) : Int) from rfl]
  dsimp only
  rw [e1, ob]
  dsimp only
  rw [show IntKind.wrap .i64 ((((0 : Nat) : Int)) + 1) = 1 from by rw [w64 (by omega) (by omega)]; rfl, l_splice_heights_1_s, cd, if_pos (by omega), show nthI [(a, a2, a3), (b, b2, b3)] (1 : Int) = some (b, b2, b3) from rfl, ob]
  rw [show (0 : Int) = ((0 : Nat) : Int) from rfl]
  dsimp only
  rw [f1, ob]
  dsimp only
  rw [show IntKind.wrap .i64 ((1 : Int) + 1) = 2 from by rw [w64 (by omega) (by omega)]; rfl, l_splice_heights_1_s, cd, if_neg (by omega)]
  rfl
theorem built_loop (N : Nat) (tokens : List Int) (known : List (Int × Int)) (hm : tokens.length ≤ 100000) : ∀ (k i m : Nat) (l : List Int), i + k = tokens.length → k < m → l.length ≤ i →
    l_splice_built_m_1 N m (tokens, tokens, ((tokens.length : Nat) : Int), (i : Int), known, l) = some (tokens, l ++ (tokens.drop i).map (fun z => (mget (.i .i64) known z).getD 0), known)
  | k, i, 0, l, h1, h2, h3 => by omega
  | 0, i, m + 1, l, h1, h2, h3 => by
    rw [l_splice_built_m_1_s, cd, if_neg (by omega), List.drop_eq_nil_of_le (by omega)]; simp
  | k + 1, i, m + 1, l, h1, h2, h3 => by
    obtain ⟨x, hx⟩ := get_at (xs := tokens) (i := i) (by omega)
    rw [l_splice_built_m_1_s, cd, if_pos (by omega), nth_of hx, ob, app_of (by omega) (by simp; omega), ob, w64n (by omega), built_loop N tokens known hm k (i + 1) m _ (by omega) (by omega) (by simp; omega), drop_at hx]
    simp
theorem built_eq (N : Nat) (hN : Fu + 6 ≤ N) (tokens : List Int) (known : List (Int × Int)) (H : Int → Int) (hm : tokens.length ≤ 100000) (hH : ∀ z ∈ tokens, (mget (.i .i64) known z).getD 0 = H z) :
    m_splice_built_m N (tokens, known) = some ((towOf tokens H).1, (towOf tokens H).2.1, (towOf tokens H).2.2, known) := by
  obtain ⟨N, rfl⟩ : ∃ n, N = n + 1 := ⟨N - 1, by omega⟩
  rw [m_splice_built_m_eq, show (0 : Int) = ((0 : Nat) : Int) from rfl, built_loop N tokens known hm tokens.length 0 N [] (by omega) (by have := Fu_eq; omega) (by simp), ob, List.drop_zero, List.nil_append, build_eq N (by omega) _ _ (by simp only; omega) (by simp; omega), ob, List.map_congr_left hH]
  rfl

/-! heights, as the document tells them -/
def hgtT (t t2 : List Int) (t3 : List (List Int)) (x : Int) : Int := if TowerR t t2 t3 then hgt t t2 x else 0
theorem height_eq (N : Nat) (hN : Fu + 7 ≤ N) (t t2 : List Int) (t3 : List (List Int)) (x : Int) (h1 : t.length ≤ 9223372036854775807) (h2 : t2.length ≤ 9223372036854775807) : m_splice_Height N (t, t2, t3, x) = some (hgtT t t2 t3 x) := by
  obtain ⟨N, rfl⟩ : ∃ n, N = n + 1 := ⟨N - 1, by omega⟩
  rw [m_splice_Height_eq, index_eq N (by omega) t x h1, ob, cd]
  by_cases hx : x ∈ t
  · rw [if_neg (fun e => ixI_lt.1 e hx), tright_eq N (by omega) t t2 t3 h1 h2, ob, cdn]
    by_cases hT : TowerR t t2 t3
    · rw [if_pos hT, ixI_pos hx, nth_of (hAt_get (by rw [hT.1.2.1]; exact ix_lt hx)), ob, hgtT, if_pos hT, hgt, if_pos hx]
    · rw [if_neg hT, hgtT, if_neg hT]
  · rw [if_pos (ixI_lt.2 hx)]
    unfold hgtT hgt
    simp [hx]
theorem rheight_eq (N : Nat) (hN : Fu + 7 ≤ N) (t t2 : List Int) (t3 : List (List Int)) (x : Int) (h1 : t.length ≤ 9223372036854775807) (h2 : t2.length ≤ 9223372036854775807) : m_ref15_Height N (t, t2, t3, x) = some (hgtT t t2 t3 x) := by
  obtain ⟨N, rfl⟩ : ∃ n, N = n + 1 := ⟨N - 1, by omega⟩
  rw [m_ref15_Height_eq, rplace_eq N (by omega) t x h1, ob, rright_eq N (by omega) t t2 t3 h1 h2, ob, cdn]
  by_cases hT : TowerR t t2 t3
  · rw [if_pos hT, cd]
    by_cases hx : x ∈ t
    · rw [if_neg (fun e => ixI_lt.1 e hx), ixI_pos hx, nth_of (hAt_get (by rw [hT.1.2.1]; exact ix_lt hx)), ob, hgtT, if_pos hT, hgt, if_pos hx]
    · rw [if_pos (ixI_lt.2 hx)]
      unfold hgtT hgt
      simp [hx]
  · rw [if_neg hT, hgtT, if_neg hT]
def rH (a a2 : List Int) (a3 : List (List Int)) (b b2 : List Int) (b3 : List (List Int)) (z : Int) : Int := if hgtT b b2 b3 z > hgtT a a2 a3 z then hgtT b b2 b3 z else hgtT a a2 a3 z
theorem rbuilt_loop (N : Nat) (hN : Fu + 7 ≤ N) (l a a2 : List Int) (a3 : List (List Int)) (b b2 : List Int) (b3 : List (List Int)) (ha : a.length ≤ 9223372036854775807) (ha2 : a2.length ≤ 9223372036854775807) (hb : b.length ≤ 9223372036854775807) (hb2 : b2.length ≤ 9223372036854775807) (hm : l.length ≤ 100000) :
    ∀ (k i m : Nat) (hts : List Int), i + k = l.length → k < m → hts.length ≤ i → l_ref15_built_1 N m (l, (i : Int), a, a2, a3, b, b2, b3, hts) = some (l, hts ++ (l.drop i).map (rH a a2 a3 b b2 b3))
  | k, i, 0, hts, h1, h2, h3 => by omega
  | 0, i, m + 1, hts, h1, h2, h3 => by
    rw [l_ref15_built_1_s, cd, if_neg (by omega), List.drop_eq_nil_of_le (by omega)]; simp
  | k + 1, i, m + 1, hts, h1, h2, h3 => by
    obtain ⟨x, hx⟩ := get_at (xs := l) (i := i) (by omega)
    rw [l_ref15_built_1_s, cd, if_pos (by omega), nth_of hx, ob, rheight_eq N hN a a2 a3 x ha ha2, ob, ob, rheight_eq N hN b b2 b3 x hb hb2, ob, app_of (by omega) (by simp; omega), ob, w64n (by omega), rbuilt_loop N hN l a a2 a3 b b2 b3 ha ha2 hb hb2 hm k (i + 1) m _ (by omega) (by omega) (by simp; omega), drop_at hx]
    simp [rH]
theorem rbuilt_eq (N : Nat) (hN : Fu + 8 ≤ N) (l a a2 : List Int) (a3 : List (List Int)) (b b2 : List Int) (b3 : List (List Int)) (ha : a.length ≤ 9223372036854775807) (ha2 : a2.length ≤ 9223372036854775807) (hb : b.length ≤ 9223372036854775807) (hb2 : b2.length ≤ 9223372036854775807) (hm : l.length ≤ 100000)
    (H : Int → Int) (hH : ∀ z ∈ l, rH a a2 a3 b b2 b3 z = H z) (hT : TowR l (l.map H)) : m_ref15_built N (l, a, a2, a3, b, b2, b3) = some (true, towOf l H) := by
  obtain ⟨N, rfl⟩ : ∃ n, N = n + 1 := ⟨N - 1, by omega⟩
  rw [m_ref15_built_eq, show (0 : Int) = ((0 : Nat) : Int) from rfl, rbuilt_loop N (by omega) l a a2 a3 b b2 b3 ha ha2 hb hb2 hm l.length 0 N [] (by omega) (by have := Fu_eq; omega) (by simp), ob, List.drop_zero, List.nil_append, rbuild_eq N (by omega) _ _ (by simp only; omega) (by simp; omega), ob, List.map_congr_left hH]
  unfold towOf buildOf
  rw [if_pos hT]
  rfl

/-! joined -/
def H2 (a a2 b b2 : List Int) (z : Int) : Int := if z ∈ b then hgt b b2 z else hgt a a2 z
theorem join_ok {a b : List Int} {x y : Int} (h : (joinOf a x b y).1 = true) : (RingR a ∧ x ∈ a) ∧ (RingR b ∧ y ∈ b) ∧ RingR (joinOf a x b y).2 ∧ (∀ z, z ∈ (joinOf a x b y).2 ↔ z ∈ a ∨ z ∈ b) ∧ (∀ z, z ∈ a → z ∉ b) ∧
    ∃ S, rotAt a x = x :: S ∧ rotAt (joinOf a x b y).2 x = x :: (rotAt b y ++ S) ∧ x ∈ (joinOf a x b y).2 := by
  unfold joinOf at h ⊢
  split at h
  · rename_i hc
    rw [if_pos hc]
    obtain ⟨⟨ha, hx⟩, ⟨hb, hy⟩, hr⟩ := hc
    obtain ⟨U, T, e, h1, h2, h3⟩ := join_form ha hx hb hy
    have hr2 := hr.2.2
    simp only
    have hma : ∀ z, z ∈ a ↔ z ∈ U ∨ z = x ∨ z ∈ T := fun z => by rw [← plain_mem ha, e]; simp
    rw [h2] at hr2 ⊢
    have hnd := List.nodup_append.1 hr2
    have hnd2 := List.nodup_cons.1 hnd.2.1
    have hnd3 := List.nodup_append.1 hnd2.2
    refine ⟨⟨ha, hx⟩, ⟨hb, hy⟩, by rw [← h2]; exact hr, fun z => ?_, fun z hz hzb => ?_, T ++ U, h3, ?_, by simp⟩
    · rw [hma z, List.mem_append, List.mem_cons, List.mem_append, rotAt_mem]
      constructor
      · rintro (h | h | h | h) <;> simp [h]
      · rintro ((h | h | h) | h) <;> simp [h]
    · have hzr : z ∈ rotAt b y := rotAt_mem.2 hzb
      rcases (hma z).1 hz with h | h | h
      · exact hnd.2.2 z h z (by simp [hzr]) rfl
      · subst h; exact hnd2.1 (by simp [hzr])
      · exact hnd3.2.2 z hzr z h rfl
    · rw [rotAt_mid h1]; simp
  · cases h
theorem join_no {a b : List Int} {x y : Int} (h : (joinOf a x b y).1 = false) : (joinOf a x b y) = (false, []) := by
  unfold joinOf at h ⊢
  split
  · rename_i hc; rw [if_pos hc] at h; cases h
  · rfl
theorem H2_in {a a2 b b2 : List Int} (ha : TowR a a2) (hb : TowR b b2) {z : Int} (h : z ∈ a ∨ z ∈ b) : 1 ≤ H2 a a2 b b2 z ∧ H2 a a2 b b2 z ≤ 8 := by
  unfold H2
  split
  · rename_i hz; exact hgt_in hb hz
  · rename_i hz; exact hgt_in ha (h.resolve_right hz)
theorem join_tow {a a2 b b2 : List Int} {x y : Int} (ha : TowR a a2) (hb : TowR b b2) (h : (joinOf a x b y).1 = true) : TowR (joinOf a x b y).2 ((joinOf a x b y).2.map (H2 a a2 b b2)) := by
  obtain ⟨h1, h2, h3, h4, h5, S, h6, h7, h8⟩ := join_ok h
  exact towR_of h3 (List.ne_nil_of_mem h8) fun z hz => H2_in ha hb ((h4 z).1 hz)
def sjT (a a2 : List Int) (a3 : List (List Int)) (x : Int) (b b2 : List Int) (b3 : List (List Int)) (y : Int) : Bool × Tow :=
  if TowerR a a2 a3 ∧ TowerR b b2 b3 then ((joinOf a x b y).1, towOf (joinOf a x b y).2 (H2 a a2 b b2)) else (false, [], [], [])
theorem sjoin_eq (N : Nat) (hN : Fu + 8 ≤ N) (a a2 : List Int) (a3 : List (List Int)) (x : Int) (b b2 : List Int) (b3 : List (List Int)) (y : Int) (ha : a.length ≤ 9223372036854775807) (ha2 : a2.length ≤ 9223372036854775807) (hb : b.length ≤ 9223372036854775807) (hb2 : b2.length ≤ 9223372036854775807) :
    m_splice_Join N (a, a2, a3, x, b, b2, b3, y) = some (sjT a a2 a3 x b b2 b3 y) := by
  obtain ⟨N, rfl⟩ : ∃ n, N = n + 1 := ⟨N - 1, by omega⟩
  rw [m_splice_Join_eq, tright_eq N (by omega) a a2 a3 ha ha2, ob, cdn]
  by_cases h1 : TowerR a a2 a3
  · rw [if_pos h1, tright_eq N (by omega) b b2 b3 hb hb2, ob, cdn]
    by_cases h2 : TowerR b b2 b3
    · rw [if_pos h2, sjT, if_pos ⟨h1, h2⟩, join_eq N (by omega) a x b y ha hb, ob]
      obtain ⟨es, e1, e2⟩ := heights2_eq N (by omega) a a2 a3 b b2 b3 h1.1 h2.1
      have hl := join_lens a x b y
      rw [e1, ob, built_eq N (by omega) _ es (H2 a a2 b b2) (by omega) (fun z hz => ?_), ob]
      rw [e2 z]
      unfold H2
      by_cases hzb : z ∈ b
      · simp [hzb]
      · by_cases hza : z ∈ a
        · simp [hzb, hza]
        · simp [hzb, hza, hgt]
    · rw [if_neg h2, sjT, if_neg (fun e => h2 e.2)]
  · rw [if_neg h1, sjT, if_neg (fun e => h1 e.1)]
theorem rsjoin_eq (N : Nat) (hN : Fu + 9 ≤ N) (a a2 : List Int) (a3 : List (List Int)) (x : Int) (b b2 : List Int) (b3 : List (List Int)) (y : Int) (ha : a.length ≤ 9223372036854775807) (ha2 : a2.length ≤ 9223372036854775807) (hb : b.length ≤ 9223372036854775807) (hb2 : b2.length ≤ 9223372036854775807) :
    m_ref15_Join N (a, a2, a3, x, b, b2, b3, y) = some (sjT a a2 a3 x b b2 b3 y) := by
  obtain ⟨N, rfl⟩ : ∃ n, N = n + 1 := ⟨N - 1, by omega⟩
  rw [m_ref15_Join_eq, rright_eq N (by omega) a a2 a3 ha ha2, ob, cdn]
  by_cases h1 : TowerR a a2 a3
  · rw [if_pos h1, rright_eq N (by omega) b b2 b3 hb hb2, ob, cdn]
    by_cases h2 : TowerR b b2 b3
    · rw [if_pos h2, sjT, if_pos ⟨h1, h2⟩, rjoin_eq N (by omega) a x b y ha hb, ob]
      cases hj : (joinOf a x b y).1 with
      | false =>
        rw [join_no hj]
        simp only [Bool.not_false, cond_true, towOf_nil]
      | true =>
        have hl := join_lens a x b y
        obtain ⟨j1, j2, j3, j4, j5, S, j6, j7, j8⟩ := join_ok hj
        simp only [Bool.not_true, cond_false]
        rw [rbuilt_eq N (by omega) _ a a2 a3 b b2 b3 ha ha2 hb hb2 (by omega) (H2 a a2 b b2) (fun z hz => ?_) (join_tow h1.1 h2.1 hj), ob]
        unfold rH hgtT H2
        rw [if_pos h1, if_pos h2]
        rcases (j4 z).1 hz with hza | hzb
        · have hzb := j5 z hza
          have := hgt_in h1.1 hza
          rw [if_neg hzb, hgt_out hzb, if_neg (by omega)]
        · have hza : z ∉ a := fun e => j5 z e hzb
          have := hgt_in h2.1 hzb
          rw [if_pos hzb, hgt_out hza, if_pos (by omega)]
    · rw [if_neg h2, sjT, if_neg (fun e => h2 e.2)]
  · rw [if_neg h1, sjT, if_neg (fun e => h1 e.1)]

/-! turned, cut -/
theorem rH_self {t t2 : List Int} {t3 : List (List Int)} (h : TowerR t t2 t3) (z : Int) : rH t t2 t3 t t2 t3 z = hgt t t2 z := by
  unfold rH hgtT
  rw [if_pos h, if_neg (by omega)]
def sfT (t t2 : List Int) (t3 : List (List Int)) (x : Int) : Bool × Tow :=
  if TowerR t t2 t3 then ((fromOf t x).1, towOf (fromOf t x).2 (hgt t t2)) else (false, [], [], [])
theorem known1 {es : List (Int × Int)} {t t2 : List Int} (e : ∀ z, mget (.i .i64) es z = if z ∈ t then some (hgt t t2 z) else none) (z : Int) : (mget (.i .i64) es z).getD 0 = hgt t t2 z := by
  rw [e z, hgt]
  by_cases hz : z ∈ t <;> simp [hz]
theorem sfrom_eq (N : Nat) (hN : Fu + 8 ≤ N) (t t2 : List Int) (t3 : List (List Int)) (x : Int) (h1 : t.length ≤ 9223372036854775807) (h2 : t2.length ≤ 9223372036854775807) : m_splice_From N (t, t2, t3, x) = some (sfT t t2 t3 x) := by
  obtain ⟨N, rfl⟩ : ∃ n, N = n + 1 := ⟨N - 1, by omega⟩
  rw [m_splice_From_eq, tright_eq N (by omega) t t2 t3 h1 h2, ob, cdn]
  by_cases hT : TowerR t t2 t3
  · rw [if_pos hT, sfT, if_pos hT, from_eq N (by omega) t x h1, ob]
    obtain ⟨es, e1, e2⟩ := heights1_eq N (by omega) t t2 t3 hT.1
    have hl := from_lens t x
    rw [e1, ob, built_eq N (by omega) _ es (hgt t t2) (by omega) (fun z hz => known1 e2 z), ob]
  · rw [if_neg hT, sfT, if_neg hT]
theorem rsfrom_eq (N : Nat) (hN : Fu + 9 ≤ N) (t t2 : List Int) (t3 : List (List Int)) (x : Int) (h1 : t.length ≤ 9223372036854775807) (h2 : t2.length ≤ 9223372036854775807) : m_ref15_From N (t, t2, t3, x) = some (sfT t t2 t3 x) := by
  obtain ⟨N, rfl⟩ : ∃ n, N = n + 1 := ⟨N - 1, by omega⟩
  rw [m_ref15_From_eq, rright_eq N (by omega) t t2 t3 h1 h2, ob, cdn]
  by_cases hT : TowerR t t2 t3
  · rw [if_pos hT, sfT, if_pos hT, rfrom_eq N (by omega) t x h1, ob]
    unfold fromOf
    by_cases hx : RingR t ∧ x ∈ t
    · rw [if_pos hx]
      simp only [Bool.not_true, cond_false]
      have hl := rotAt_len t x
      have hr := hx.1.1
      rw [rbuilt_eq N (by omega) _ t t2 t3 t t2 t3 h1 h2 h1 h2 (by omega) (hgt t t2) (fun z hz => rH_self hT z) (towR_of (rotAt_ring.2 hx.1) (List.ne_nil_of_mem (rotAt_mem.2 hx.2)) fun z hz => hgt_in hT.1 (rotAt_mem.1 hz)), ob]
    · rw [if_neg hx]
      simp only [Bool.not_false, cond_true, towOf_nil]
  · rw [if_neg hT, sfT, if_neg hT]
def scT (t t2 : List Int) (t3 : List (List Int)) (x y : Int) : Bool × List Int × List Int × List (List Int) × List Int × List Int × List (List Int) :=
  if TowerR t t2 t3 ∧ x ∈ t ∧ y ∈ t ∧ x ≠ y then
    (true, (towOf (cutOf t x y).2.1 (hgt t t2)).1, (towOf (cutOf t x y).2.1 (hgt t t2)).2.1, (towOf (cutOf t x y).2.1 (hgt t t2)).2.2, towOf (cutOf t x y).2.2 (hgt t t2))
  else (false, [], [], [], [], [], [])
theorem cut_no {t : List Int} {x y : Int} (h : ¬ (RingR t ∧ x ∈ t ∧ y ∈ t)) : cutOf t x y = (false, [], []) := by
  rw [cutOf, if_neg h]
theorem cut_rings {t : List Int} {x y : Int} (h : RingR t) (hx : x ∈ t) (hy : y ∈ t) (hne : x ≠ y) : ∃ R P S : List Int, cutOf t x y = (true, R, P ++ [y]) ∧ rotAt R x = x :: S ∧ rotAt t x = x :: (P ++ [y] ++ S) ∧ RingR R ∧ RingR (P ++ [y]) ∧ x ∈ R ∧ (∀ z, z ∈ R ↔ z = x ∨ z ∈ S) ∧ (∀ z, z ∈ t ↔ z ∈ R ∨ z ∈ P ++ [y]) ∧ (∀ z, z ∈ R → z ∉ P ++ [y]) ∧ R.length + (P ++ [y]).length = t.length := by
  obtain ⟨R, P, S, h1, h2, h3, h4, h5, h6, h7, h8⟩ := cut_form h hx hy hne
  have hm : ∀ z, z ∈ R ↔ z = x ∨ z ∈ S := fun z => by rw [← rotAt_mem (v := x), h5]; simp
  have hmt : ∀ z, z ∈ t ↔ z = x ∨ z ∈ P ++ [y] ∨ z ∈ S := fun z => by rw [← rotAt_mem (v := x), h6]; simp only [List.mem_cons, List.mem_append]
  have hnd : (x :: (P ++ [y] ++ S)).Nodup := by rw [← h6]; exact rot_nodup.2 h.2.2
  have hnd1 := List.nodup_cons.1 hnd
  have hnd2 := List.nodup_append.1 hnd1.2
  have hlt := h.1
  refine ⟨R, P, S, h1, h5, h6, ⟨by omega, h8, h2⟩, ⟨by omega, fun z hz => h.2.1 z ((hmt z).2 (.inr (.inl hz))), hnd2.1⟩, h3, hm, fun z => ?_, fun z hz hp => ?_, h7⟩
  · rw [hmt, hm]
    constructor
    · rintro (h | h | h) <;> simp [h]
    · rintro ((h | h) | h)
      · exact .inl h
      · exact .inr (.inr h)
      · exact .inr (.inl h)
  · rcases (hm z).1 hz with h | h
    · subst h; exact hnd1.1 (List.mem_append.2 (.inl hp))
    · exact hnd2.2.2 z hp z h rfl
theorem scut_eq (N : Nat) (hN : Fu + 8 ≤ N) (t t2 : List Int) (t3 : List (List Int)) (x y : Int) (h1 : t.length ≤ 9223372036854775807) (h2 : t2.length ≤ 9223372036854775807) : m_splice_Cut N (t, t2, t3, x, y) = some (scT t t2 t3 x y) := by
  obtain ⟨N, rfl⟩ : ∃ n, N = n + 1 := ⟨N - 1, by omega⟩
  rw [m_splice_Cut_eq, tright_eq N (by omega) t t2 t3 h1 h2, ob, cdn]
  by_cases hT : TowerR t t2 t3
  · rw [if_pos hT, cut_eq N (by omega) t x y h1, ob]
    by_cases hx : x ∈ t ∧ y ∈ t
    · by_cases hne : x = y
      · subst hne
        rw [cut_self hT.1.2.2.1 hx.1, scT, if_neg (fun e => e.2.2.2 rfl)]
        rfl
      · rw [scT, if_pos ⟨hT, hx.1, hx.2, hne⟩]
        obtain ⟨R, P, S, c1, c2, c3, c4, c5, c6, c7, c8, c9, c10⟩ := cut_rings hT.1.2.2.1 hx.1 hx.2 hne
        have hR := List.length_pos_of_mem c6
        have hr1 := c4.1
        have hr2 := c5.1
        rw [c1]
        simp only [Bool.not_true, cond_false]
        rw [cd, if_neg (by omega)]
        obtain ⟨es, e1, e2⟩ := heights1_eq N (by omega) t t2 t3 hT.1
        rw [e1, ob, built_eq N (by omega) R es (hgt t t2) (by omega) (fun z hz => known1 e2 z), ob, built_eq N (by omega) (P ++ [y]) es (hgt t t2) (by omega) (fun z hz => known1 e2 z), ob]
    · rw [cut_no (fun e => hx e.2), scT, if_neg (fun e => hx ⟨e.2.1, e.2.2.1⟩)]
      rfl
  · rw [if_neg hT, scT, if_neg (fun e => hT e.1)]
theorem rscut_eq (N : Nat) (hN : Fu + 9 ≤ N) (t t2 : List Int) (t3 : List (List Int)) (x y : Int) (h1 : t.length ≤ 9223372036854775807) (h2 : t2.length ≤ 9223372036854775807) : m_ref15_Cut N (t, t2, t3, x, y) = some (scT t t2 t3 x y) := by
  obtain ⟨N, rfl⟩ : ∃ n, N = n + 1 := ⟨N - 1, by omega⟩
  rw [m_ref15_Cut_eq, rright_eq N (by omega) t t2 t3 h1 h2, ob, cdn]
  by_cases hT : TowerR t t2 t3
  · rw [if_pos hT, rcut_eq N (by omega) t x y h1, ob]
    by_cases hx : x ∈ t ∧ y ∈ t
    · by_cases hne : x = y
      · subst hne
        rw [cut_self hT.1.2.2.1 hx.1, scT, if_neg (fun e => e.2.2.2 rfl)]
        rfl
      · rw [scT, if_pos ⟨hT, hx.1, hx.2, hne⟩]
        obtain ⟨R, P, S, c1, c2, c3, c4, c5, c6, c7, c8, c9, c10⟩ := cut_rings hT.1.2.2.1 hx.1 hx.2 hne
        have hR := List.length_pos_of_mem c6
        have hr1 := c4.1
        have hr2 := c5.1
        rw [c1]
        simp only [Bool.not_true, cond_false]
        rw [cd, if_neg (by omega)]
        rw [rbuilt_eq N (by omega) R t t2 t3 t t2 t3 h1 h2 h1 h2 (by omega) (hgt t t2) (fun z hz => rH_self hT z) (towR_of c4 (List.ne_nil_of_mem c6) fun z hz => hgt_in hT.1 ((c8 z).2 (.inl hz))), ob,
          rbuilt_eq N (by omega) (P ++ [y]) t t2 t3 t t2 t3 h1 h2 h1 h2 (by omega) (hgt t t2) (fun z hz => rH_self hT z) (towR_of c5 (by simp) fun z hz => hgt_in hT.1 ((c8 z).2 (.inr hz))), ob]
    · rw [cut_no (fun e => hx e.2), scT, if_neg (fun e => hx ⟨e.2.1, e.2.2.1⟩)]
      rfl
  · rw [if_neg hT, scT, if_neg (fun e => hT e.1)]
end Go.Proofs.Ytggnolfcgaglfaa
/-! Links of towers; what the first law says. -/
namespace Go.Proofs.Ytggnolfcgaglfaa
open Go Go.RowKit

def entLk (ts hs : List Int) (i h : Nat) : Lnk := (ts.getD i 0, (h : Int), ts.getD ((i + dist hs i h) % hs.length) 0)
def rowLk (ts hs : List Int) (i : Nat) : List Lnk := (List.range (hAt hs i).toNat).map (entLk ts hs i)
def linksL (ts hs : List Int) : List Lnk := (List.range hs.length).flatMap (rowLk ts hs)
def linksT (t t2 : List Int) (t3 : List (List Int)) : List Lnk := if TowerR t t2 t3 then linksL t t2 else []
theorem row_len {ts hs : List Int} (h : HighR hs) {i : Nat} (hi : i < hs.length) : (rowLk ts hs i).length ≤ 8 := by
  have := high_at h hi
  simp [rowLk]; omega
theorem rows_len {ts hs : List Int} (h : HighR hs) : ∀ i, i ≤ hs.length → ((List.range i).flatMap (rowLk ts hs)).length ≤ 8 * i
  | 0, _ => by simp
  | i + 1, hi => by
    have ih := rows_len (ts := ts) h i (by omega)
    have := row_len (ts := ts) h (i := i) (by omega)
    rw [List.range_succ, List.flatMap_append, List.length_append]
    simp only [List.flatMap_cons, List.flatMap_nil, List.append_nil]
    omega
theorem links_len {ts hs : List Int} (h : HighR hs) : (linksL ts hs).length ≤ 8 * hs.length := rows_len h _ (Nat.le_refl _)
theorem getD_of {xs : List Int} {i : Nat} {x : Int} (h : xs[i]? = some x) : xs.getD i 0 = x := by simp [h]
/-- of a link: where it leads -/
theorem ent_at {ts hs : List Int} (hT : TowR ts hs) {i h : Nat} (hi : i < hs.length) (hh : h < (hAt hs i).toNat) : ∃ x y : Int, ts[i]? = some x ∧ nthI ts (linkOf hs i h) = some y ∧ entLk ts hs i h = (x, (h : Int), y) ∧ (rowLk ts hs i)[h]? = some (x, (h : Int), y) ∧ (linksOf hs i)[h]? = some (linkOf hs i h) := by
  have hl := hT.2.1
  obtain ⟨x, hx⟩ := get_at (xs := ts) (i := i) (by omega)
  obtain ⟨y, hy⟩ := get_at (xs := ts) (i := (i + dist hs i h) % hs.length) (by rw [← hl]; exact Nat.mod_lt _ (by omega))
  have e : entLk ts hs i h = (x, (h : Int), y) := by rw [entLk, getD_of hx, getD_of hy]
  refine ⟨x, y, hx, nth_of hy, e, ?_, map_get _ _ _ hh⟩
  rw [rowLk, map_get _ _ _ hh, e]
theorem lks2 (N : Nat) (ts hs : List Int) (hT : TowR ts hs) (i : Nat) (hi : i < hs.length) : ∀ (k h m : Nat) (l : List Lnk), h + k = (hAt hs i).toNat → k < m → l.length ≤ 10000 + h →
    l_splice_Links_2 N m ((i : Int), nextOf hs, (((nextOf hs).length : Nat) : Int), (i : Int), linksOf hs i, (((linksOf hs i).length : Nat) : Int), (h : Int), ts, hs, nextOf hs, l) = some (nextOf hs, (((nextOf hs).length : Nat) : Int), (i : Int), ts, hs, nextOf hs, l ++ (rowLk ts hs i).drop h)
  | k, h, 0, l, h1, h2, h3 => by omega
  | 0, h, m + 1, l, h1, h2, h3 => by
    have hl : (linksOf hs i).length = (hAt hs i).toNat := by simp [linksOf]
    have hl2 : (rowLk ts hs i).length = (hAt hs i).toNat := by simp [rowLk]
    rw [l_splice_Links_2_s, cd, if_neg (by omega), List.drop_eq_nil_of_le (by omega), List.append_nil]
  | k + 1, h, m + 1, l, h1, h2, h3 => by
    have hl : (linksOf hs i).length = (hAt hs i).toNat := by simp [linksOf]
    have h8 := high_at hT.2.2.2 hi
    obtain ⟨x, y, e1, e2, e3, e4, e5⟩ := ent_at hT hi (h := h) (by omega)
    rw [l_splice_Links_2_s, cd, if_pos (by omega), nth_of e5, ob, nth_of e1, ob, e2, ob, app_of (by omega) (by simp; omega), ob, w64n (by omega), lks2 N ts hs hT i hi k (h + 1) m _ (by omega) (by omega) (by simp; omega), drop_at e4]
    simp
theorem lks1 (N : Nat) (hN : Fu ≤ N) (ts hs : List Int) (hT : TowR ts hs) : ∀ (k i m : Nat), i + k = hs.length → k < m →
    l_splice_Links_1 N m (nextOf hs, (((nextOf hs).length : Nat) : Int), (i : Int), ts, hs, nextOf hs, (List.range i).flatMap (rowLk ts hs)) = some (linksL ts hs)
  | k, i, 0, h1, h2 => by omega
  | 0, i, m + 1, h1, h2 => by
    have hl : (nextOf hs).length = hs.length := by simp [nextOf]
    rw [l_splice_Links_1_s, cd, if_neg (by omega)]
    have : i = hs.length := by omega
    subst this; rfl
  | k + 1, i, m + 1, h1, h2 => by
    have hl : (nextOf hs).length = hs.length := by simp [nextOf]
    have hx : (nextOf hs)[i]? = some (linksOf hs i) := map_get _ _ _ (by omega)
    have hr := rows_len (ts := ts) hT.2.2.2 i (by omega)
    have h1000 := hT.2.2.1.1
    have hle := hT.2.1
    have h8 := high_at hT.2.2.2 (j := i) (by omega)
    have e := lks2 N ts hs hT i (by omega) (hAt hs i).toNat 0 N ((List.range i).flatMap (rowLk ts hs)) (by omega) (by have := Fu_eq; omega) (by omega)
    rw [l_splice_Links_1_s, cd, if_pos (by omega), nth_of hx, ob, show (0 : Int) = ((0 : Nat) : Int) from rfl, e, ob]
    dsimp only
    rw [w64n (by omega), List.drop_zero]
    have : (List.range i).flatMap (rowLk ts hs) ++ rowLk ts hs i = (List.range (i + 1)).flatMap (rowLk ts hs) := by
      rw [List.range_succ, List.flatMap_append]; simp
    rw [this]
    exact lks1 N hN ts hs hT k (i + 1) m (by omega) (by omega)
theorem links_eq (N : Nat) (hN : Fu + 7 ≤ N) (t t2 : List Int) (t3 : List (List Int)) (h1 : t.length ≤ 9223372036854775807) (h2 : t2.length ≤ 9223372036854775807) : m_splice_Links N (t, t2, t3) = some (linksT t t2 t3) := by
  obtain ⟨N, rfl⟩ : ∃ n, N = n + 1 := ⟨N - 1, by omega⟩
  rw [m_splice_Links_eq, tright_eq N (by omega) t t2 t3 h1 h2, ob, cdn]
  by_cases hT : TowerR t t2 t3
  · rw [if_pos hT, linksT, if_pos hT]
    have h0 := hT.1.2.2.1.1
    have h3 := hT.1.2.1
    have := lks1 N (by omega) t t2 hT.1 t2.length 0 N (by omega) (by have := Fu_eq; omega)
    rw [hT.2, show (0 : Int) = ((0 : Nat) : Int) from rfl]
    rw [show ([] : List Lnk) = (List.range 0).flatMap (rowLk t t2) from rfl, this, ob]
  · rw [if_neg hT, linksT, if_neg hT]
theorem rlks2 (N : Nat) (ts hs : List Int) (hT : TowR ts hs) (i : Nat) (hi : i < hs.length) : ∀ (k h m : Nat) (l : List Lnk), h + k = (hAt hs i).toNat → k < m → l.length ≤ 10000 + h →
    l_ref15_Links_2 N m ((i : Int), (h : Int), ts, hs, nextOf hs, l) = some ((i : Int), ts, hs, nextOf hs, l ++ (rowLk ts hs i).drop h)
  | k, h, 0, l, h1, h2, h3 => by omega
  | 0, h, m + 1, l, h1, h2, h3 => by
    have hl : (linksOf hs i).length = (hAt hs i).toNat := by simp [linksOf]
    have hl2 : (rowLk ts hs i).length = (hAt hs i).toNat := by simp [rowLk]
    have hx : (nextOf hs)[i]? = some (linksOf hs i) := map_get _ _ _ hi
    rw [l_ref15_Links_2_s, nth_of hx, ob, cd, if_neg (by omega), List.drop_eq_nil_of_le (by omega), List.append_nil]
  | k + 1, h, m + 1, l, h1, h2, h3 => by
    have hl : (linksOf hs i).length = (hAt hs i).toNat := by simp [linksOf]
    have h8 := high_at hT.2.2.2 hi
    have hx : (nextOf hs)[i]? = some (linksOf hs i) := map_get _ _ _ hi
    obtain ⟨x, y, e1, e2, e3, e4, e5⟩ := ent_at hT hi (h := h) (by omega)
    rw [l_ref15_Links_2_s, nth_of hx, ob, cd, if_pos (by omega), nth_of e1, ob, ob, nth_of e5, ob, e2, ob, app_of (by omega) (by simp; omega), ob, w64n (by omega), rlks2 N ts hs hT i hi k (h + 1) m _ (by omega) (by omega) (by simp; omega), drop_at e4]
    simp
theorem rlks1 (N : Nat) (hN : Fu ≤ N) (ts hs : List Int) (hT : TowR ts hs) : ∀ (k i m : Nat), i + k = hs.length → k < m →
    l_ref15_Links_1 N m ((i : Int), ts, hs, nextOf hs, (List.range i).flatMap (rowLk ts hs)) = some (linksL ts hs)
  | k, i, 0, h1, h2 => by omega
  | 0, i, m + 1, h1, h2 => by
    have hl : (nextOf hs).length = hs.length := by simp [nextOf]
    rw [l_ref15_Links_1_s, cd, if_neg (by omega)]
    have : i = hs.length := by omega
    subst this; rfl
  | k + 1, i, m + 1, h1, h2 => by
    have hl : (nextOf hs).length = hs.length := by simp [nextOf]
    have hr := rows_len (ts := ts) hT.2.2.2 i (by omega)
    have h1000 := hT.2.2.1.1
    have hle := hT.2.1
    have h8 := high_at hT.2.2.2 (j := i) (by omega)
    have e := rlks2 N ts hs hT i (by omega) (hAt hs i).toNat 0 N ((List.range i).flatMap (rowLk ts hs)) (by omega) (by have := Fu_eq; omega) (by omega)
    rw [l_ref15_Links_1_s, cd, if_pos (by omega), show (0 : Int) = ((0 : Nat) : Int) from rfl, e, ob]
    dsimp only
    rw [w64n (by omega), List.drop_zero]
    have : (List.range i).flatMap (rowLk ts hs) ++ rowLk ts hs i = (List.range (i + 1)).flatMap (rowLk ts hs) := by
      rw [List.range_succ, List.flatMap_append]; simp
    rw [this]
    exact rlks1 N hN ts hs hT k (i + 1) m (by omega) (by omega)
theorem rlinks_eq (N : Nat) (hN : Fu + 7 ≤ N) (t t2 : List Int) (t3 : List (List Int)) (h1 : t.length ≤ 9223372036854775807) (h2 : t2.length ≤ 9223372036854775807) : m_ref15_Links N (t, t2, t3) = some (linksT t t2 t3) := by
  obtain ⟨N, rfl⟩ : ∃ n, N = n + 1 := ⟨N - 1, by omega⟩
  rw [m_ref15_Links_eq, rright_eq N (by omega) t t2 t3 h1 h2, ob, cdn]
  by_cases hT : TowerR t t2 t3
  · rw [if_pos hT, linksT, if_pos hT]
    have h0 := hT.1.2.2.1.1
    have h3 := hT.1.2.1
    have := rlks1 N (by omega) t t2 hT.1 t2.length 0 N (by omega) (by have := Fu_eq; omega)
    rw [hT.2, show (0 : Int) = ((0 : Nat) : Int) from rfl]
    rw [show ([] : List Lnk) = (List.range 0).flatMap (rowLk t t2) from rfl, this, ob]
  · rw [if_neg hT, linksT, if_neg hT]
theorem linksT_len (t t2 : List Int) (t3 : List (List Int)) : (linksT t t2 t3).length ≤ 8000 := by
  unfold linksT
  split
  · rename_i h
    have h1 := links_len (ts := t) h.1.2.2.2
    have h2 := h.1.2.2.1.1
    have h3 := h.1.2.1
    omega
  · simp
theorem same_loop (N : Nat) (a : List Lnk) (hm : a.length ≤ 100000) : ∀ (k i m : Nat), i + k = a.length → k < m → l_ref15_Same_1 N m (a, a, (i : Int)) = some (.inl ())
  | k, i, 0, h1, h2 => by omega
  | 0, i, m + 1, h1, h2 => by
    rw [l_ref15_Same_1_s, cd, if_neg (by omega)]
  | k + 1, i, m + 1, h1, h2 => by
    obtain ⟨x, hx⟩ := get_at (xs := a) (i := i) (by omega)
    rw [l_ref15_Same_1_s, cd, if_pos (by omega), nth_of hx, ob, ob, w64n (by omega), same_loop N a hm k (i + 1) m (by omega) (by omega)]
    simp
theorem lsame_eq (N : Nat) (hN : Fu + 1 ≤ N) (a : List Lnk) (hm : a.length ≤ 100000) : m_ref15_Same N (a, a) = some true := by
  obtain ⟨N, rfl⟩ : ∃ n, N = n + 1 := ⟨N - 1, by omega⟩
  rw [m_ref15_Same_eq, cdn, if_pos rfl, show (0 : Int) = ((0 : Nat) : Int) from rfl, same_loop N a hm a.length 0 N (by omega) (by have := Fu_eq; omega), ob]

theorem tow_lens (l : List Int) (H : Int → Int) : Lens (towOf l H) := by
  unfold towOf buildOf
  split
  · rename_i h; exact build_lens h
  · exact ⟨by simp, by simp, by simp, by simp⟩
theorem nil_lens : Lens ([], [], []) := ⟨by simp, by simp, by simp, by simp⟩
theorem sj_lens (a a2 : List Int) (a3 : List (List Int)) (x : Int) (b b2 : List Int) (b3 : List (List Int)) (y : Int) : Lens (sjT a a2 a3 x b b2 b3 y).2 := by
  unfold sjT
  split
  · exact tow_lens _ _
  · exact nil_lens
theorem sf_lens (t t2 : List Int) (t3 : List (List Int)) (x : Int) : Lens (sfT t t2 t3 x).2 := by
  unfold sfT
  split
  · exact tow_lens _ _
  · exact nil_lens
theorem sc_lens (t t2 : List Int) (t3 : List (List Int)) (x y : Int) : Lens ((scT t t2 t3 x y).2.1, (scT t t2 t3 x y).2.2.1, (scT t t2 t3 x y).2.2.2.1) ∧ Lens (scT t t2 t3 x y).2.2.2.2 := by
  unfold scT
  split
  · exact ⟨tow_lens _ _, tow_lens _ _⟩
  · exact ⟨nil_lens, nil_lens⟩
theorem tsame_eq (N : Nat) (hN : Fu + 3 ≤ N) (t : Tow) (h : Lens t) : m_ref14_Same N (t.1, (t.2.1, (t.2.2, (t.1, (t.2.1, t.2.2))))) = some true := by
  rw [rsame_eq N hN _ _ _ _ _ _ h]
  simp
end Go.Proofs.Ytggnolfcgaglfaa
/-! The fixed fact; what the first two laws say. -/
namespace Go.Proofs.Ytggnolfcgaglfaa
open Go Go.RowKit

theorem al1 : buildOf [0, 1, 2, 3] [1, 3, 1, 2] = (0, [0, 1, 2, 3], [1, 3, 1, 2], [[1], [2, 3, 1], [3], [0, 1]]) := by decide +kernel
set_option synthInstance.maxSize 4000 in
theorem al2 : scT [0, 1, 2, 3] [1, 3, 1, 2] [[1], [2, 3, 1], [3], [0, 1]] 1 2 = (true, [0, 1, 3], [1, 3, 2], [[1], [2, 2, 1], [0, 1]], [2], [1], [[0]]) := by decide +kernel
theorem al3 : sjT [0, 1, 3] [1, 3, 2] [[1], [2, 2, 1], [0, 1]] 1 [2] [1] [[0]] 2 = (true, [0, 1, 2, 3], [1, 3, 1, 2], [[1], [2, 3, 1], [3], [0, 1]]) := by decide +kernel
theorem al4 : sfT [0, 1, 2, 3] [1, 3, 1, 2] [[1], [2, 3, 1], [3], [0, 1]] 2 = (true, [2, 3, 0, 1], [1, 2, 1, 3], [[1], [2, 3], [3], [0, 1, 3]]) := by decide +kernel
theorem al5 : linksT [0, 1, 2, 3] [1, 3, 1, 2] [[1], [2, 3, 1], [3], [0, 1]] = [(0, 0, 1), (1, 0, 2), (1, 1, 3), (1, 2, 1), (2, 0, 3), (3, 0, 0), (3, 1, 1)] := by decide +kernel
theorem al6 : linksT [0, 1, 3] [1, 3, 2] [[1], [2, 2, 1], [0, 1]] = [(0, 0, 1), (1, 0, 3), (1, 1, 3), (1, 2, 1), (3, 0, 0), (3, 1, 1)] := by decide +kernel
set_option synthInstance.maxSize 4000 in
theorem al7 : scT [0, 1, 2, 3] [1, 3, 1, 2] [[1], [2, 3, 1], [3], [0, 1]] 1 1 = (false, [], [], [], [], [], []) := by decide +kernel
theorem al8 : chg [(0, 0, 1), (1, 0, 2), (1, 1, 3), (1, 2, 1), (2, 0, 3), (3, 0, 0), (3, 1, 1)] [(0, 0, 1), (1, 0, 3), (1, 1, 3), (1, 2, 1), (3, 0, 0), (3, 1, 1)] = 2 := by decide +kernel
theorem al9 : hgtT [0, 1, 2, 3] [1, 3, 1, 2] [[1], [2, 3, 1], [3], [0, 1]] 3 = 2 := by decide +kernel
theorem al10 : hgtT [0, 1, 2, 3] [1, 3, 1, 2] [[1], [2, 3, 1], [3], [0, 1]] 9 = 0 := by decide +kernel
theorem alive_eq (N : Nat) (hN : Fu + 10 ≤ N) : m_law15_alive N () = some true := by
  obtain ⟨N, rfl⟩ : ∃ n, N = n + 1 := ⟨N - 1, by omega⟩
  rw [m_law15_alive_eq, rbuild_eq N (by omega) _ _ (by decide) (by decide), ob, al1]
  dsimp only
  rw [scut_eq N (by omega) _ _ _ _ _ (by decide) (by decide), ob, al2]
  dsimp only
  rw [sjoin_eq N (by omega) _ _ _ _ _ _ _ _ (by decide) (by decide) (by decide) (by decide), ob, al3]
  dsimp only
  rw [sfrom_eq N (by omega) _ _ _ _ (by decide) (by decide), ob, al4]
  dsimp only
  rw [links_eq N (by omega) _ _ _ (by decide) (by decide), ob, al5]
  rw [links_eq N (by omega) _ _ _ (by decide) (by decide), ob, al6]
  rw [scut_eq N (by omega) _ _ _ _ _ (by decide) (by decide), ob, al7]
  dsimp only
  simp only [cond_true, Bool.not_false]
  rw [rsame_eq N (by omega) _ _ _ _ _ _ ⟨by decide, by decide, by decide, by decide⟩, ob, cd, if_pos rfl]
  rw [ints_eq N (by omega) _ _ (by decide), ob, cd, if_pos rfl, ints_eq N (by omega) _ _ (by decide), ob, cd, if_pos rfl, ints_eq N (by omega) _ _ (by decide), ob, cd, if_pos rfl, cd, if_pos (by decide)]
  rw [show nthI [((0 : Int), (0 : Int), (1 : Int)), (1, 0, 2), (1, 1, 3), (1, 2, 1), (2, 0, 3), (3, 0, 0), (3, 1, 1)] (1 : Int) = some (1, 0, 2) from rfl, ob, ob]
  rw [show nthI [((0 : Int), (0 : Int), (1 : Int)), (1, 0, 2), (1, 1, 3), (1, 2, 1), (2, 0, 3), (3, 0, 0), (3, 1, 1)] (3 : Int) = some (1, 2, 1) from rfl, ob, ob]
  dsimp only
  simp only [decide_true, Bool.and_self, cond_true]
  rw [cd, if_pos (by decide), changed_eq N (by omega) _ _ (by decide) (by decide), ob, al8, cd, if_pos (by decide), changed_eq N (by omega) _ _ (by decide) (by decide), ob, chg_same (fun _ => rfl), cd, if_pos (by decide), height_eq N (by omega) _ _ _ _ (by decide) (by decide), ob, al9, cd, if_pos rfl, height_eq N (by omega) _ _ _ _ (by decide) (by decide), ob, al10]
  rfl
theorem spliceChanged_eq (N : Nat) (hN : Fu + 11 ≤ N) (a b : List Lnk) : m_law15_SpliceChanged N (a, b) = some true := spliceChanged_of N (by omega) (alive_eq _ (by omega)) a b
theorem spliceAnswers_eq (N : Nat) (hN : Fu + 11 ≤ N) (a a2 : List Int) (a3 : List (List Int)) (b b2 : List Int) (b3 : List (List Int)) (x y : Int) (ha : Lens (a, a2, a3)) (hb : Lens (b, b2, b3)) : m_law15_SpliceAnswers N (a, a2, a3, b, b2, b3, x, y) = some true := by
  obtain ⟨N, rfl⟩ : ∃ n, N = n + 1 := ⟨N - 1, by omega⟩
  obtain ⟨g1, hg1⟩ := great_ex N (by omega) 150 a a2 a3 ha.2.2.1
  obtain ⟨g2, hg2⟩ := great_ex N (by omega) 150 b b2 b3 hb.2.2.1
  have a1 := ha.1
  have a2' := ha.2.1
  have b1 := hb.1
  have b2' := hb.2.1
  simp only at a1 a2' b1 b2'
  rw [m_law15_SpliceAnswers_eq, alive_eq N (by omega), ob, Bool.not_true, cond_false, hg1, ob]
  cases g1 with
  | true => rfl
  | false =>
    rw [cond_false, hg2, ob]
    cases g2 with
    | true => rfl
    | false =>
      have hl := linksT_len a a2 a3
      rw [cond_false, sjoin_eq N (by omega) a a2 a3 x b b2 b3 y a1 a2' b1 b2', ob, rsjoin_eq N (by omega) a a2 a3 x b b2 b3 y a1 a2' b1 b2', ob, scut_eq N (by omega) a a2 a3 x y a1 a2', ob, rscut_eq N (by omega) a a2 a3 x y a1 a2', ob, sfrom_eq N (by omega) a a2 a3 x a1 a2', ob, rsfrom_eq N (by omega) a a2 a3 x a1 a2', ob,
        tsame_eq N (by omega) (sjT a a2 a3 x b b2 b3 y).2 (sj_lens _ _ _ _ _ _ _ _), ob, cond_true, beq_self_eq_true, cond_true, tsame_eq N (by omega) ((scT a a2 a3 x y).2.1, (scT a a2 a3 x y).2.2.1, (scT a a2 a3 x y).2.2.2.1) (sc_lens _ _ _ _ _).1, ob, cond_true,
        tsame_eq N (by omega) (scT a a2 a3 x y).2.2.2.2 (sc_lens _ _ _ _ _).2, ob, cond_true, beq_self_eq_true, cond_true, tsame_eq N (by omega) (sfT a a2 a3 x).2 (sf_lens _ _ _ _), ob, cond_true, beq_self_eq_true, cond_true, links_eq N (by omega) a a2 a3 a1 a2', ob, rlinks_eq N (by omega) a a2 a3 a1 a2', ob, lsame_eq N (by omega) _ (by omega), ob, cond_true, height_eq N (by omega) a a2 a3 x a1 a2', ob, rheight_eq N (by omega) a a2 a3 x a1 a2', ob]
      simp
end Go.Proofs.Ytggnolfcgaglfaa
