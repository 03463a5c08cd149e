/- Rings: what the functions compute, the program's and the document's. -/
import Derived.Test.YtmijkdlkhakmiaaRingB
import Derived.Test.YtmijkdlkhakmiaaHand
set_option linter.unusedVariables false
set_option linter.unusedSimpArgs false
namespace Go.Proofs.Ytmijkdlkhakmiaa
open Go Go.RowKit

def ixI (l : List Int) (v : Int) : Int := if v ∈ l then (ix l v : Int) else -1
theorem ixI_pos {l : List Int} {v : Int} (h : v ∈ l) : ixI l v = (ix l v : Int) := if_pos h
theorem ixI_neg {l : List Int} {v : Int} (h : v ∉ l) : ixI l v = -1 := if_neg h
theorem ixI_sign {l : List Int} {v : Int} : (0 ≤ ixI l v) ↔ v ∈ l := by
  by_cases h : v ∈ l
  · rw [ixI_pos h]; simp [h]
  · rw [ixI_neg h]; simp [h]
theorem ixI_lt {l : List Int} {v : Int} : (ixI l v < 0) ↔ v ∉ l := by
  rw [← ixI_sign]; omega
theorem index_loop (N : Nat) (l : List Int) (v : Int) (hm : l.length ≤ 9223372036854775807) : ∀ (k i m : Nat), i + k = l.length → k < m →
    l_slices_Index_Lint_int_1 N m (l, v, ((l.length : Nat) : Int), (i : Int)) = some (if v ∈ l.drop i then .inr ((i + ix (l.drop i) v : Nat) : Int) else .inl ())
  | k, i, 0, h1, h2 => by omega
  | 0, i, m + 1, h1, h2 => by
    rw [l_slices_Index_Lint_int_1_s, cd, if_neg (by omega), List.drop_eq_nil_of_le (by omega)]; simp
  | k + 1, i, m + 1, h1, h2 => by
    obtain ⟨x, hx⟩ := get_at (xs := l) (i := i) (by omega)
    rw [l_slices_Index_Lint_int_1_s, cd, if_pos (by omega), nth_of hx, ob, cd, w64n (by omega), drop_at hx]
    by_cases h : v = x
    · subst h
      rw [if_pos rfl, if_pos (by simp), ix, if_pos rfl]; rfl
    · have hk : ix (x :: l.drop (i + 1)) v = ix (l.drop (i + 1)) v + 1 := by rw [ix, if_neg (fun e : x = v => h e.symm)]
      rw [if_neg h, index_loop N l v hm k (i + 1) m (by omega) (by omega), hk]
      by_cases h2 : v ∈ l.drop (i + 1)
      · rw [if_pos h2, if_pos (by simp [h2])]; congr 3; omega
      · rw [if_neg h2, if_neg (by simp [h, h2])]
theorem index_eq (N : Nat) (hN : Fu + 1 ≤ N) (l : List Int) (v : Int) (hm : l.length ≤ 9223372036854775807) : m_slices_Index_Lint_int N (l, v) = some (ixI l v) := by
  obtain ⟨N, rfl⟩ : ∃ n, N = n + 1 := ⟨N - 1, by omega⟩
  have h := index_loop N l v hm l.length 0 N (by omega) (by have := Fu_eq; omega)
  rw [List.drop_zero, Nat.zero_add] at h
  rw [m_slices_Index_Lint_int_eq, show ((0 : Int) = ((0 : Nat) : Int)) from rfl, h, ob, ixI]
  by_cases c : v ∈ l
  · rw [if_pos c, if_pos c]
  · rw [if_neg c, if_neg c]
theorem rplace_loop (N : Nat) (l : List Int) (v : Int) (hm : l.length ≤ 9223372036854775807) : ∀ (k i m : Nat), i + k = l.length → k < m →
    l_ref13_Place_1 N m (l, v, (i : Int)) = some (if v ∈ l.drop i then .inr ((i + ix (l.drop i) v : Nat) : Int) else .inl ())
  | k, i, 0, h1, h2 => by omega
  | 0, i, m + 1, h1, h2 => by
    rw [l_ref13_Place_1_s, cd, if_neg (by omega), List.drop_eq_nil_of_le (by omega)]; simp
  | k + 1, i, m + 1, h1, h2 => by
    obtain ⟨x, hx⟩ := get_at (xs := l) (i := i) (by omega)
    rw [l_ref13_Place_1_s, cd, if_pos (by omega), nth_of hx, ob, cd, w64n (by omega), drop_at hx]
    by_cases h : x = v
    · subst h
      rw [if_pos rfl, if_pos (by simp), ix, if_pos rfl]; rfl
    · have hk : ix (x :: l.drop (i + 1)) v = ix (l.drop (i + 1)) v + 1 := by rw [ix, if_neg h]
      rw [if_neg h, rplace_loop N l v hm k (i + 1) m (by omega) (by omega), hk]
      by_cases h2 : v ∈ l.drop (i + 1)
      · rw [if_pos h2, if_pos (by simp [h2])]; congr 3; omega
      · rw [if_neg h2, if_neg (by simp [h2, show ¬ v = x from fun e => h e.symm])]
theorem rplace_eq (N : Nat) (hN : Fu + 1 ≤ N) (l : List Int) (v : Int) (hm : l.length ≤ 9223372036854775807) : m_ref13_Place N (l, v) = some (ixI l v) := by
  obtain ⟨N, rfl⟩ : ∃ n, N = n + 1 := ⟨N - 1, by omega⟩
  have h := rplace_loop N l v hm l.length 0 N (by omega) (by have := Fu_eq; omega)
  rw [List.drop_zero, Nat.zero_add] at h
  rw [m_ref13_Place_eq, show ((0 : Int) = ((0 : Nat) : Int)) from rfl, h, ob, ixI]
  by_cases c : v ∈ l
  · rw [if_pos c, if_pos c]
  · rw [if_neg c, if_neg c]
theorem has_eq (N : Nat) (hN : Fu + 2 ≤ N) (l : List Int) (v : Int) (hm : l.length ≤ 9223372036854775807) : m_slices_Contains_Lint_int N (l, v) = some (decide (v ∈ l)) := by
  obtain ⟨N, rfl⟩ : ∃ n, N = n + 1 := ⟨N - 1, by omega⟩
  rw [m_slices_Contains_Lint_int_eq, index_eq N (by omega) l v hm, ob]
  congr 1
  exact decide_eq_decide.2 ixI_sign
theorem places_loop (N : Nat) (hN : Fu + 1 ≤ N) (l ts : List Int) (hm : l.length ≤ 9223372036854775807) (ht : ts.length ≤ 1000) : ∀ (k i m : Nat) (acc : List Int), i + k = ts.length → k < m → acc.length ≤ i →
    l_ring_places_1 N m (l, ts, ((ts.length : Nat) : Int), (i : Int), acc) = some (acc ++ (ts.drop i).map (ixI l))
  | k, i, 0, acc, h1, h2, h3 => by omega
  | 0, i, m + 1, acc, h1, h2, h3 => by
    rw [l_ring_places_1_s, cd, if_neg (by omega), List.drop_eq_nil_of_le (by omega)]; simp
  | k + 1, i, m + 1, acc, h1, h2, h3 => by
    obtain ⟨x, hx⟩ := get_at (xs := ts) (i := i) (by omega)
    rw [l_ring_places_1_s, cd, if_pos (by omega), nth_of hx, ob, index_eq N hN l x hm, ob, app_of (by omega) (by simp; omega), ob, w64n (by omega), places_loop N hN l ts hm ht k (i + 1) m _ (by omega) (by omega) (by simp; omega), drop_at hx]
    simp
theorem places_eq (N : Nat) (hN : Fu + 4 ≤ N) (l ts : List Int) (hm : l.length ≤ 9223372036854775807) (ht : ts.length ≤ 1000) : m_ring_places N (l, ts) = some (if RingR l then (decide (∀ t ∈ ts, t ∈ l), ts.map (ixI l)) else (false, [])) := by
  obtain ⟨N, rfl⟩ : ∃ n, N = n + 1 := ⟨N - 1, by omega⟩
  have h := places_loop N (by omega) l ts hm ht ts.length 0 N [] (by omega) (by have := Fu_eq; omega) (by simp)
  rw [List.drop_zero, List.nil_append] at h
  rw [m_ring_places_eq, ring_eq N (by omega) l hm, ob]
  by_cases c : RingR l
  · rw [if_pos c, decide_eq_true c, Bool.not_true, cond_false, show ((0 : Int) = ((0 : Nat) : Int)) from rfl, h, ob, has_eq N (by omega) _ _ (by simp; omega), ob]
    congr 2
    rw [← decide_not]
    refine decide_eq_decide.2 ?_
    rw [List.mem_map]
    constructor
    · intro h t ht
      refine Decidable.by_contra fun hn => h ⟨t, ht, ixI_neg hn⟩
    · rintro h ⟨t, ht, e⟩
      have := ixI_pos (h t ht)
      omega
  · rw [if_neg c, decide_eq_false c]; rfl
theorem concat_eq (N : Nat) (hN : Fu + 2 ≤ N) (a b : List Int) (ha : a.length ≤ 100000) (hb : b.length ≤ 100000) : m_slices_Concat_Lint_int N [a, b] = some (a ++ b) := by
  obtain ⟨N, rfl⟩ : ∃ n, N = n + 2 := ⟨N - 2, by omega⟩
  obtain ⟨K, hK⟩ : ∃ K, N + 1 = K + 3 := ⟨N - 2, by have := Fu_eq; omega⟩
  have n0 : nthI ([a, b] : List (List Int)) (0 : Int) = some a := rfl
  have n1 : nthI ([a, b] : List (List Int)) (1 : Int) = some b := rfl
  have w1 : IntKind.wrap .i64 ((0 : Int) + 1) = 1 := w64 (by omega) (by omega)
  have w2 : IntKind.wrap .i64 ((1 : Int) + 1) = 2 := w64 (by omega) (by omega)
  have e1 : l_slices_Concat_Lint_int_1 (N + 1) (N + 1) ([a, b], 0, [a, b], ((([a, b] : List (List Int)).length : Nat) : Int), 0) = some ([a, b], (a.length : Int) + (b.length : Int)) := by
    have : ∀ M, l_slices_Concat_Lint_int_1 M (K + 3) ([a, b], 0, [a, b], ((([a, b] : List (List Int)).length : Nat) : Int), 0) = some ([a, b], (a.length : Int) + (b.length : Int)) := fun M => by
      rw [l_slices_Concat_Lint_int_1_s, cd, if_pos (by simp), n0, ob, cd, w64 (x := (0 : Int) + ((a.length : Nat) : Int)) (by omega) (by omega), if_neg (by omega), w1, l_slices_Concat_Lint_int_1_s, cd, if_pos (by simp), n1, ob, cd, w64 (x := (0 : Int) + ((a.length : Nat) : Int) + ((b.length : Nat) : Int)) (by omega) (by omega), if_neg (by omega), w2, l_slices_Concat_Lint_int_1_s, cd, if_neg (by simp)]
      congr 2
      omega
    have h2 := this (N + 1)
    rwa [← hK] at h2
  have e2 : l_slices_Concat_Lint_int_2 (N + 1) (N + 1) ([a, b], ((([a, b] : List (List Int)).length : Nat) : Int), 0, []) = some (a ++ b) := by
    have : ∀ M, l_slices_Concat_Lint_int_2 M (K + 3) ([a, b], ((([a, b] : List (List Int)).length : Nat) : Int), 0, []) = some (a ++ b) := fun M => by
      rw [l_slices_Concat_Lint_int_2_s, cd, if_pos (by simp), n0, ob, app_of (by omega) (by simp; omega), ob, w1, l_slices_Concat_Lint_int_2_s, cd, if_pos (by simp), n1, ob, app_of (by omega) (by simp; omega), ob, w2, l_slices_Concat_Lint_int_2_s, cd, if_neg (by simp)]
      simp
    have h2 := this (N + 1)
    rwa [← hK] at h2
  rw [m_slices_Concat_Lint_int_eq, e1, ob]
  simp only
  rw [m_slices_Grow_Lint_int, decide_eq_true ⟨by omega, by omega⟩, cond_true, ob, e2, ob]
theorem turned_eq (N : Nat) (hN : Fu + 3 ≤ N) (l : List Int) (p : Nat) (hp : p ≤ l.length) (hm : l.length ≤ 1000) : m_ring_turned N (l, (p : Int)) = some (rot l p) := by
  obtain ⟨N, rfl⟩ : ∃ n, N = n + 1 := ⟨N - 1, by omega⟩
  rw [m_ring_turned_eq, sub_drop (by omega) (by omega), ob, sub_take (by omega) (by omega), ob, Int.toNat_natCast, concat_eq N (by omega) _ _ (by simp; omega) (by simp; omega), ob]; rfl
theorem from_eq (N : Nat) (hN : Fu + 5 ≤ N) (l : List Int) (x : Int) (hm : l.length ≤ 9223372036854775807) : m_ring_From N (l, x) = some (fromOf l x) := by
  obtain ⟨N, rfl⟩ : ∃ n, N = n + 1 := ⟨N - 1, by omega⟩
  rw [m_ring_From_eq, places_eq N (by omega) l [x] hm (by simp), ob, fromOf]
  by_cases c : RingR l
  · rw [if_pos c]
    by_cases c2 : x ∈ l
    · have := ix_lt c2
      rw [if_pos ⟨c, c2⟩]
      have e : (decide (∀ t ∈ [x], t ∈ l), [x].map (ixI l)) = (true, [(ix l x : Int)]) := by simp [c2, ixI_pos c2]
      rw [e]
      have n0 : nthI [(ix l x : Int)] (0 : Int) = some (ix l x : Int) := rfl
      simp only [Bool.not_true, cond_false, n0, ob]
      rw [turned_eq N (by omega) l _ (by omega) c.1]; rfl
    · have e : (decide (∀ t ∈ [x], t ∈ l), [x].map (ixI l)) = (false, [(-1 : Int)]) := by simp [c2, ixI_neg c2]
      rw [e, if_neg (fun h => c2 h.2)]; rfl
  · rw [if_neg c, if_neg (fun h => c h.1)]; rfl
theorem rfrom_eq (N : Nat) (hN : Fu + 5 ≤ N) (l : List Int) (x : Int) (hm : l.length ≤ 9223372036854775807) : m_ref13_From N (l, x) = some (fromOf l x) := by
  obtain ⟨N, rfl⟩ : ∃ n, N = n + 1 := ⟨N - 1, by omega⟩
  rw [m_ref13_From_eq, rplace_eq N (by omega) l x hm, ob, rring_eq N (by omega) l hm, ob, cdn, fromOf]
  by_cases c : RingR l
  · rw [if_pos c, cd]
    by_cases c2 : x ∈ l
    · have := ix_lt c2
      have hl := c.1
      rw [if_neg (fun h => ixI_lt.1 h c2), if_pos ⟨c, c2⟩, ixI_pos c2, sub_drop (by omega) (by omega), ob, app_of (by omega) (by simp; omega), ob, sub_take (by omega) (by omega), ob, app_of (by omega) (by simp; omega), ob]
      simp [rotAt, rot]
    · rw [if_pos (ixI_lt.2 c2), if_neg (fun h => c2 h.2)]
  · rw [if_neg c, if_neg (fun h => c h.1)]
theorem min_loop (N : Nat) (l : List Int) (hm : l.length ≤ 1000) : ∀ (k i m : Nat) (a : Int), i + k = l.length → k < m → a ∈ l → (∀ (j : Nat) y, j < i → l[j]? = some y → a ≤ y) →
    l_slices_Min_Lint_int_1 N m (l, a, (i : Int)) = some (minV l)
  | k, i, 0, a, h1, h2, h3, h4 => by omega
  | 0, i, m + 1, a, h1, h2, h3, h4 => by
    rw [l_slices_Min_Lint_int_1_s, cd, if_neg (by omega)]
    congr 1
    refine (minV_uniq h3 fun y hy => ?_).symm
    obtain ⟨j, hj⟩ := List.getElem?_of_mem hy
    exact h4 j y (by have := (List.getElem?_eq_some_iff.1 hj).1; omega) hj
  | k + 1, i, m + 1, a, h1, h2, h3, h4 => by
    obtain ⟨x, hx⟩ := get_at (xs := l) (i := i) (by omega)
    rw [l_slices_Min_Lint_int_1_s, cd, if_pos (by omega), nth_of hx, ob, w64n (by omega)]
    refine min_loop N l hm k (i + 1) m _ (by omega) (by omega) ?_ fun j y hj hy => ?_
    · split
      · exact List.mem_of_getElem? hx
      · exact h3
    · by_cases e : j = i
      · subst e
        rw [hx] at hy; cases hy
        split <;> omega
      · have := h4 j y (by omega) hy
        split <;> omega
theorem min_eq (N : Nat) (hN : Fu + 1 ≤ N) (l : List Int) (hm : l.length ≤ 1000) (h0 : l ≠ []) : m_slices_Min_Lint_int N l = some (minV l) := by
  obtain ⟨N, rfl⟩ : ∃ n, N = n + 1 := ⟨N - 1, by omega⟩
  have hp := List.length_pos_iff.2 h0
  obtain ⟨x, hx⟩ := get_at (xs := l) (i := 0) hp
  rw [m_slices_Min_Lint_int_eq, cd, if_neg (by omega), show ((0 : Int) = ((0 : Nat) : Int)) from rfl, nth_of hx, ob, show ((1 : Int) = ((1 : Nat) : Int)) from rfl, min_loop N l hm (l.length - 1) 1 N x (by omega) (by have := Fu_eq; omega) (List.mem_of_getElem? hx) (fun j y hj hy => by
    have : j = 0 := by omega
    subst this
    rw [hx] at hy; cases hy; exact Int.le_refl _), ob]
theorem rleast_loop (N : Nat) (l : List Int) (hm : l.length ≤ 1000) : ∀ (k i m : Nat) (a : Int), i + k = l.length → k < m → a ∈ l → (∀ (j : Nat) y, j < i → l[j]? = some y → a ≤ y) →
    l_ref13_Plain_1 N m (l, a, (i : Int)) = some (l, minV l)
  | k, i, 0, a, h1, h2, h3, h4 => by omega
  | 0, i, m + 1, a, h1, h2, h3, h4 => by
    rw [l_ref13_Plain_1_s, cd, if_neg (by omega)]
    congr 2
    refine (minV_uniq h3 fun y hy => ?_).symm
    obtain ⟨j, hj⟩ := List.getElem?_of_mem hy
    exact h4 j y (by have := (List.getElem?_eq_some_iff.1 hj).1; omega) hj
  | k + 1, i, m + 1, a, h1, h2, h3, h4 => by
    obtain ⟨x, hx⟩ := get_at (xs := l) (i := i) (by omega)
    rw [l_ref13_Plain_1_s, cd, if_pos (by omega), nth_of hx, ob, w64n (by omega)]
    refine rleast_loop N l hm k (i + 1) m _ (by omega) (by omega) ?_ fun j y hj hy => ?_
    · split
      · exact List.mem_of_getElem? hx
      · exact h3
    · by_cases e : j = i
      · subst e
        rw [hx] at hy; cases hy
        split <;> omega
      · have := h4 j y (by omega) hy
        split <;> omega
theorem plain_eq (N : Nat) (hN : Fu + 5 ≤ N) (l : List Int) (hm : l.length ≤ 9223372036854775807) : m_ring_Plain N l = some (plainOf l) := by
  obtain ⟨N, rfl⟩ : ∃ n, N = n + 1 := ⟨N - 1, by omega⟩
  rw [m_ring_Plain_eq, ring_eq N (by omega) l hm, ob, cdn, plainOf]
  by_cases c : RingR l
  · rw [if_pos c, cd]
    by_cases c2 : l = []
    · subst c2; simp
    · have hp := List.length_pos_iff.2 c2
      have hi := (minV_ok c2).1
      have := ix_lt hi
      rw [if_neg (by omega), if_pos ⟨c, c2⟩, min_eq N (by omega) l c.1 c2, ob, index_eq N (by omega) l _ hm, ob, ixI_pos hi, turned_eq N (by omega) l _ (by omega) c.1, ob]; rfl
  · rw [if_neg c, if_neg (fun h => c h.1)]
theorem rplain_eq (N : Nat) (hN : Fu + 6 ≤ N) (l : List Int) (hm : l.length ≤ 9223372036854775807) : m_ref13_Plain N l = some (plainOf l) := by
  obtain ⟨N, rfl⟩ : ∃ n, N = n + 1 := ⟨N - 1, by omega⟩
  rw [m_ref13_Plain_eq, rring_eq N (by omega) l hm, ob, cdn, plainOf]
  by_cases c : RingR l
  · rw [if_pos c, cd]
    by_cases c2 : l = []
    · subst c2; simp
    · have hp := List.length_pos_iff.2 c2
      have hi := (minV_ok c2).1
      obtain ⟨x, hx⟩ := get_at (xs := l) (i := 0) hp
      have e := rleast_loop N l c.1 l.length 0 N x (by omega) (by have := Fu_eq; omega) (List.mem_of_getElem? hx) (fun j y hj hy => by omega)
      rw [if_neg (by omega), if_pos ⟨c, c2⟩, show ((0 : Int) = ((0 : Nat) : Int)) from rfl, nth_of hx, ob, e, ob]
      simp only
      rw [rfrom_eq N (by omega) l _ hm, ob, fromOf, if_pos ⟨c, hi⟩]
  · rw [if_neg c, if_neg (fun h => c h.1)]
theorem join_eq (N : Nat) (hN : Fu + 6 ≤ N) (a : List Int) (x : Int) (b : List Int) (y : Int) (ha : a.length ≤ 9223372036854775807) (hb : b.length ≤ 9223372036854775807) : m_ring_Join N (a, x, b, y) = some (joinOf a x b y) := by
  obtain ⟨N, rfl⟩ : ∃ n, N = n + 1 := ⟨N - 1, by omega⟩
  rw [m_ring_Join_eq, places_eq N (by omega) a [x] ha (by simp), ob, joinOf]
  by_cases c : ¬ RingR a
  · rw [if_neg c, if_neg (fun h => c h.1.1)]; rfl
  have c := Decidable.not_not.1 c
  rw [if_pos c]
  by_cases cx : ¬ x ∈ a
  · have e : decide (∀ t ∈ [x], t ∈ a) = false := by simp [cx]
    rw [e, if_neg (fun h => cx h.1.2)]; rfl
  have c1 : RingR a ∧ x ∈ a := ⟨c, Decidable.not_not.1 cx⟩
  have e : decide (∀ t ∈ [x], t ∈ a) = true := by simp [c1.2]
  rw [e]
  simp only [Bool.not_true, cond_false]
  rw [from_eq N (by omega) b y hb, ob, fromOf]
  by_cases c2 : ¬ (RingR b ∧ y ∈ b)
  · rw [if_neg c2, if_neg (fun h => c2 h.2.1)]; rfl
  have c2 := Decidable.not_not.1 c2
  have hne : a ≠ [] := List.ne_nil_of_mem c1.2
  have hx := (plain_mem c1.1).2 c1.2
  have hlt := ix_lt hx
  have hpl := plain_len c1.1
  have hrl := rotAt_len b y
  have hbl := List.length_pos_of_mem c2.2
  have ha1 := c1.1.1
  have hb1 := c2.1.1
  rw [if_pos c2]
  simp only [Bool.not_true, cond_false]
  have hin : m_slices_Insert_Lint_int_o_o N (((ix (plainOf a) x + 1 : Nat) : Int), plainOf a, rotAt b y) = some (insOf (plainOf a) (ix (plainOf a) x + 1) (rotAt b y)) := by
    rw [m_slices_Insert_Lint_int_o_o, decide_eq_true ⟨by simp only; omega, by simp only; omega, by simp only; omega, by simp only; omega, by simp only; omega⟩, cond_true]
    simp only [insI, insOf, Int.toNat_natCast]
  rw [plain_eq N (by omega) a ha, ob, index_eq N (by omega) _ _ (by omega), ob, ixI_pos hx, w64n (by omega), hin, ob, ring_eq N (by omega) _ (by simp [insOf]; omega), ob, cdn]
  by_cases c3 : RingR (insOf (plainOf a) (ix (plainOf a) x + 1) (rotAt b y))
  · rw [if_pos c3, if_pos ⟨c1, c2, c3⟩]
  · rw [if_neg c3, if_neg (fun h => c3 h.2.2)]
theorem rjoin_eq (N : Nat) (hN : Fu + 7 ≤ N) (a : List Int) (x : Int) (b : List Int) (y : Int) (ha : a.length ≤ 9223372036854775807) (hb : b.length ≤ 9223372036854775807) : m_ref13_Join N (a, x, b, y) = some (joinOf a x b y) := by
  obtain ⟨N, rfl⟩ : ∃ n, N = n + 1 := ⟨N - 1, by omega⟩
  rw [m_ref13_Join_eq, rfrom_eq N (by omega) b y hb, ob, rring_eq N (by omega) a ha, ob, cdn, joinOf]
  by_cases c : ¬ RingR a
  · rw [if_neg c, if_neg (fun h => c h.1.1)]
  have c := Decidable.not_not.1 c
  rw [if_pos c, rplace_eq N (by omega) a x ha, ob, cd]
  by_cases cx : ¬ x ∈ a
  · rw [if_pos (ixI_lt.2 cx), if_neg (fun h => cx h.1.2)]
  have cx := Decidable.not_not.1 cx
  rw [if_neg (fun h => ixI_lt.1 h cx), fromOf]
  by_cases c2 : ¬ (RingR b ∧ y ∈ b)
  · rw [if_neg c2, if_neg (fun h => c2 h.2.1)]; rfl
  have c2 := Decidable.not_not.1 c2
  have hx := (plain_mem c).2 cx
  have hlt := ix_lt hx
  have hpl := plain_len c
  have hrl := rotAt_len b y
  have ha1 := c.1
  have hb1 := c2.1.1
  rw [if_pos c2]
  simp only [Bool.not_true, cond_false]
  rw [rplain_eq N (by omega) a ha, ob, rplace_eq N (by omega) _ _ (by omega), ob, ixI_pos hx, w64n (by omega), sub_take (by omega) (by omega), ob, Int.toNat_natCast, app_of (by omega) (by simp; omega), ob, app_of (by omega) (by simp; omega), ob, sub_drop (by omega) (by omega), ob, Int.toNat_natCast, app_of (by omega) (by simp; omega), ob, List.nil_append, show List.take (ix (plainOf a) x + 1) (plainOf a) ++ rotAt b y ++ List.drop (ix (plainOf a) x + 1) (plainOf a) = insOf (plainOf a) (ix (plainOf a) x + 1) (rotAt b y) from rfl, rring_eq N (by omega) _ (by simp [insOf]; omega), ob, cdn]
  by_cases c3 : RingR (insOf (plainOf a) (ix (plainOf a) x + 1) (rotAt b y))
  · rw [if_pos c3, if_pos ⟨⟨c, cx⟩, c2, c3⟩]
  · rw [if_neg c3, if_neg (fun h => c3 h.2.2)]
theorem same_of (N : Nat) (hN : Fu + 6 ≤ N) (a b : List Int) (ha : a.length ≤ 9223372036854775807) (hb : b.length ≤ 9223372036854775807) : m_ring_Same N (a, b) = some (sameOf a b) := by
  obtain ⟨N, rfl⟩ : ∃ n, N = n + 1 := ⟨N - 1, by omega⟩
  rw [m_ring_Same_eq, ring_eq N (by omega) a ha, ob, cd, sameOf]
  by_cases c1 : RingR a
  · rw [if_pos c1, ring_eq N (by omega) b hb, ob, cd]
    by_cases c2 : RingR b
    · rw [if_pos c2, plain_eq N (by omega) a ha, ob, plain_eq N (by omega) b hb, ob, equal_eq N (by omega) _ _ (by rw [plain_len c1]; exact ha), ob]
      simp [c1, c2]
    · rw [if_neg c2]; simp [c2]
  · rw [if_neg c1]; simp [c1]
theorem rsame_of (N : Nat) (hN : Fu + 7 ≤ N) (a b : List Int) (ha : a.length ≤ 9223372036854775807) (hb : b.length ≤ 9223372036854775807) : m_ref13_Same N (a, b) = some (sameOf a b) := by
  obtain ⟨N, rfl⟩ : ∃ n, N = n + 1 := ⟨N - 1, by omega⟩
  rw [m_ref13_Same_eq, rring_eq N (by omega) a ha, ob, cd, sameOf]
  by_cases c1 : RingR a
  · rw [if_pos c1, rring_eq N (by omega) b hb, ob, cd]
    by_cases c2 : RingR b
    · rw [if_pos c2, rplain_eq N (by omega) a ha, ob, rplain_eq N (by omega) b hb, ob, ints_eq N (by omega) _ _ (by rw [plain_len c1]; exact ha), ob]
      simp [c1, c2]
    · rw [if_neg c2]; simp [c2]
  · rw [if_neg c1]; simp [c1]
end Go.Proofs.Ytmijkdlkhakmiaa
