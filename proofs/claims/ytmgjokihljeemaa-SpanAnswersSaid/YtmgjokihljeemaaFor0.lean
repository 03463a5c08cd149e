/- Places, parts and least tokens of rings, told plainly. (picked by wip/pick.py) -/
import Derived.Test.YtmgjokihljeemaaAo1
import Derived.Test.YtmgjokihljeemaaRingA
set_option linter.unusedVariables false
set_option linter.unusedSimpArgs false
namespace Go.Proofs.Ytmgjokihljeemaa
open Go Go.RowKit
theorem rot_get (l : List Int) {p i : Nat} (hp : p ≤ l.length) (hi : i < l.length) : (rot l p)[i]? = l[(p + i) % l.length]? := by
  unfold rot
  by_cases c : p + i < l.length
  · rw [List.getElem?_append_left (by simp; omega), List.getElem?_drop, Nat.mod_eq_of_lt c]
  · rw [List.getElem?_append_right (by simp; omega), List.length_drop, Nat.mod_eq_sub_mod (by omega), Nat.mod_eq_of_lt (by omega), List.getElem?_take, if_pos (by omega)]
    congr 1; omega
def ixI (l : List Int) (v : Int) : Int := if v ∈ l then (ix l v : Int) else -1
theorem ixI_pos {l : List Int} {v : Int} (h : v ∈ l) : ixI l v = (ix l v : Int) := if_pos h
theorem ixI_neg {l : List Int} {v : Int} (h : v ∉ l) : ixI l v = -1 := if_neg h
theorem ixI_sign {l : List Int} {v : Int} : (0 ≤ ixI l v) ↔ v ∈ l := by
  by_cases h : v ∈ l
  · rw [ixI_pos h]; simp [h]
  · rw [ixI_neg h]; simp [h]
theorem ixI_lt {l : List Int} {v : Int} : (ixI l v < 0) ↔ v ∉ l := by
  rw [← ixI_sign]; omega
theorem index_loop (N : Nat) (l : List Int) (v : Int) (hm : l.length ≤ 9223372036854775807) : ∀ (k i m : Nat), i + k = l.length → k < m →
    l_slices_Index_Lint_int_1 N m (l, v, ((l.length : Nat) : Int), (i : Int)) = some (if v ∈ l.drop i then .inr ((i + ix (l.drop i) v : Nat) : Int) else .inl ())
  | k, i, 0, h1, h2 => by omega
  | 0, i, m + 1, h1, h2 => by
    rw [l_slices_Index_Lint_int_1_s, cd, if_neg (by omega), List.drop_eq_nil_of_le (by omega)]; simp
  | k + 1, i, m + 1, h1, h2 => by
    obtain ⟨x, hx⟩ := get_at (xs := l) (i := i) (by omega)
    rw [l_slices_Index_Lint_int_1_s, cd, if_pos (by omega), nth_of hx, ob, cd, w64n (by omega), drop_at hx]
    by_cases h : v = x
    · subst h
      rw [if_pos rfl, if_pos (by simp), ix, if_pos rfl]; rfl
    · have hk : ix (x :: l.drop (i + 1)) v = ix (l.drop (i + 1)) v + 1 := by rw [ix, if_neg (fun e : x = v => h e.symm)]
      rw [if_neg h, index_loop N l v hm k (i + 1) m (by omega) (by omega), hk]
      by_cases h2 : v ∈ l.drop (i + 1)
      · rw [if_pos h2, if_pos (by simp [h2])]; congr 3; omega
      · rw [if_neg h2, if_neg (by simp [h, h2])]
theorem index_eq (N : Nat) (hN : Fu + 1 ≤ N) (l : List Int) (v : Int) (hm : l.length ≤ 9223372036854775807) : m_slices_Index_Lint_int N (l, v) = some (ixI l v) := by
  obtain ⟨N, rfl⟩ : ∃ n, N = n + 1 := ⟨N - 1, by omega⟩
  have h := index_loop N l v hm l.length 0 N (by omega) (by have := Fu_eq; omega)
  rw [List.drop_zero, Nat.zero_add] at h
  rw [m_slices_Index_Lint_int_eq, show ((0 : Int) = ((0 : Nat) : Int)) from rfl, h, ob, ixI]
  by_cases c : v ∈ l
  · rw [if_pos c, if_pos c]
  · rw [if_neg c, if_neg c]
theorem rplace_loop (N : Nat) (l : List Int) (v : Int) (hm : l.length ≤ 9223372036854775807) : ∀ (k i m : Nat), i + k = l.length → k < m →
    l_ref13_Place_1 N m (l, v, (i : Int)) = some (if v ∈ l.drop i then .inr ((i + ix (l.drop i) v : Nat) : Int) else .inl ())
  | k, i, 0, h1, h2 => by omega
  | 0, i, m + 1, h1, h2 => by
    rw [l_ref13_Place_1_s, cd, if_neg (by omega), List.drop_eq_nil_of_le (by omega)]; simp
  | k + 1, i, m + 1, h1, h2 => by
    obtain ⟨x, hx⟩ := get_at (xs := l) (i := i) (by omega)
    rw [l_ref13_Place_1_s, cd, if_pos (by omega), nth_of hx, ob, cd, w64n (by omega), drop_at hx]
    by_cases h : x = v
    · subst h
      rw [if_pos rfl, if_pos (by simp), ix, if_pos rfl]; rfl
    · have hk : ix (x :: l.drop (i + 1)) v = ix (l.drop (i + 1)) v + 1 := by rw [ix, if_neg h]
      rw [if_neg h, rplace_loop N l v hm k (i + 1) m (by omega) (by omega), hk]
      by_cases h2 : v ∈ l.drop (i + 1)
      · rw [if_pos h2, if_pos (by simp [h2])]; congr 3; omega
      · rw [if_neg h2, if_neg (by simp [h2, show ¬ v = x from fun e => h e.symm])]
theorem rplace_eq (N : Nat) (hN : Fu + 1 ≤ N) (l : List Int) (v : Int) (hm : l.length ≤ 9223372036854775807) : m_ref13_Place N (l, v) = some (ixI l v) := by
  obtain ⟨N, rfl⟩ : ∃ n, N = n + 1 := ⟨N - 1, by omega⟩
  have h := rplace_loop N l v hm l.length 0 N (by omega) (by have := Fu_eq; omega)
  rw [List.drop_zero, Nat.zero_add] at h
  rw [m_ref13_Place_eq, show ((0 : Int) = ((0 : Nat) : Int)) from rfl, h, ob, ixI]
  by_cases c : v ∈ l
  · rw [if_pos c, if_pos c]
  · rw [if_neg c, if_neg c]
theorem has_eq (N : Nat) (hN : Fu + 2 ≤ N) (l : List Int) (v : Int) (hm : l.length ≤ 9223372036854775807) : m_slices_Contains_Lint_int N (l, v) = some (decide (v ∈ l)) := by
  obtain ⟨N, rfl⟩ : ∃ n, N = n + 1 := ⟨N - 1, by omega⟩
  rw [m_slices_Contains_Lint_int_eq, index_eq N (by omega) l v hm, ob]
  congr 1
  exact decide_eq_decide.2 ixI_sign
theorem rfrom_eq (N : Nat) (hN : Fu + 5 ≤ N) (l : List Int) (x : Int) (hm : l.length ≤ 9223372036854775807) : m_ref13_From N (l, x) = some (fromOf l x) := by
  obtain ⟨N, rfl⟩ : ∃ n, N = n + 1 := ⟨N - 1, by omega⟩
  rw [m_ref13_From_eq, rplace_eq N (by omega) l x hm, ob, rring_eq N (by omega) l hm, ob, cdn, fromOf]
  by_cases c : RingR l
  · rw [if_pos c, cd]
    by_cases c2 : x ∈ l
    · have := ix_lt c2
      have hl := c.1
      rw [if_neg (fun h => ixI_lt.1 h c2), if_pos ⟨c, c2⟩, ixI_pos c2, sub_drop (by omega) (by omega), ob, app_of (by omega) (by simp; omega), ob, sub_take (by omega) (by omega), ob, app_of (by omega) (by simp; omega), ob]
      simp [rotAt, rot]
    · rw [if_pos (ixI_lt.2 c2), if_neg (fun h => c2 h.2)]
  · rw [if_neg c, if_neg (fun h => c h.1)]
theorem min_loop (N : Nat) (l : List Int) (hm : l.length ≤ 1000) : ∀ (k i m : Nat) (a : Int), i + k = l.length → k < m → a ∈ l → (∀ (j : Nat) y, j < i → l[j]? = some y → a ≤ y) →
    l_slices_Min_Lint_int_1 N m (l, a, (i : Int)) = some (minV l)
  | k, i, 0, a, h1, h2, h3, h4 => by omega
  | 0, i, m + 1, a, h1, h2, h3, h4 => by
    rw [l_slices_Min_Lint_int_1_s, cd, if_neg (by omega)]
    congr 1
    refine (minV_uniq h3 fun y hy => ?_).symm
    obtain ⟨j, hj⟩ := List.getElem?_of_mem hy
    exact h4 j y (by have := (List.getElem?_eq_some_iff.1 hj).1; omega) hj
  | k + 1, i, m + 1, a, h1, h2, h3, h4 => by
    obtain ⟨x, hx⟩ := get_at (xs := l) (i := i) (by omega)
    rw [l_slices_Min_Lint_int_1_s, cd, if_pos (by omega), nth_of hx, ob, w64n (by omega)]
    refine min_loop N l hm k (i + 1) m _ (by omega) (by omega) ?_ fun j y hj hy => ?_
    · split
      · exact List.mem_of_getElem? hx
      · exact h3
    · by_cases e : j = i
      · subst e
        rw [hx] at hy; cases hy
        split <;> omega
      · have := h4 j y (by omega) hy
        split <;> omega
theorem min_eq (N : Nat) (hN : Fu + 1 ≤ N) (l : List Int) (hm : l.length ≤ 1000) (h0 : l ≠ []) : m_slices_Min_Lint_int N l = some (minV l) := by
  obtain ⟨N, rfl⟩ : ∃ n, N = n + 1 := ⟨N - 1, by omega⟩
  have hp := List.length_pos_iff.2 h0
  obtain ⟨x, hx⟩ := get_at (xs := l) (i := 0) hp
  rw [m_slices_Min_Lint_int_eq, cd, if_neg (by omega), show ((0 : Int) = ((0 : Nat) : Int)) from rfl, nth_of hx, ob, show ((1 : Int) = ((1 : Nat) : Int)) from rfl, min_loop N l hm (l.length - 1) 1 N x (by omega) (by have := Fu_eq; omega) (List.mem_of_getElem? hx) (fun j y hj hy => by
    have : j = 0 := by omega
    subst this
    rw [hx] at hy; cases hy; exact Int.le_refl _), ob]
theorem rleast_loop (N : Nat) (l : List Int) (hm : l.length ≤ 1000) : ∀ (k i m : Nat) (a : Int), i + k = l.length → k < m → a ∈ l → (∀ (j : Nat) y, j < i → l[j]? = some y → a ≤ y) →
    l_ref13_Plain_1 N m (l, a, (i : Int)) = some (l, minV l)
  | k, i, 0, a, h1, h2, h3, h4 => by omega
  | 0, i, m + 1, a, h1, h2, h3, h4 => by
    rw [l_ref13_Plain_1_s, cd, if_neg (by omega)]
    congr 2
    refine (minV_uniq h3 fun y hy => ?_).symm
    obtain ⟨j, hj⟩ := List.getElem?_of_mem hy
    exact h4 j y (by have := (List.getElem?_eq_some_iff.1 hj).1; omega) hj
  | k + 1, i, m + 1, a, h1, h2, h3, h4 => by
    obtain ⟨x, hx⟩ := get_at (xs := l) (i := i) (by omega)
    rw [l_ref13_Plain_1_s, cd, if_pos (by omega), nth_of hx, ob, w64n (by omega)]
    refine rleast_loop N l hm k (i + 1) m _ (by omega) (by omega) ?_ fun j y hj hy => ?_
    · split
      · exact List.mem_of_getElem? hx
      · exact h3
    · by_cases e : j = i
      · subst e
        rw [hx] at hy; cases hy
        split <;> omega
      · have := h4 j y (by omega) hy
        split <;> omega
theorem rplain_eq (N : Nat) (hN : Fu + 6 ≤ N) (l : List Int) (hm : l.length ≤ 9223372036854775807) : m_ref13_Plain N l = some (plainOf l) := by
  obtain ⟨N, rfl⟩ : ∃ n, N = n + 1 := ⟨N - 1, by omega⟩
  rw [m_ref13_Plain_eq, rring_eq N (by omega) l hm, ob, cdn, plainOf]
  by_cases c : RingR l
  · rw [if_pos c, cd]
    by_cases c2 : l = []
    · subst c2; simp
    · have hp := List.length_pos_iff.2 c2
      have hi := (minV_ok c2).1
      obtain ⟨x, hx⟩ := get_at (xs := l) (i := 0) hp
      have e := rleast_loop N l c.1 l.length 0 N x (by omega) (by have := Fu_eq; omega) (List.mem_of_getElem? hx) (fun j y hj hy => by omega)
      rw [if_neg (by omega), if_pos ⟨c, c2⟩, show ((0 : Int) = ((0 : Nat) : Int)) from rfl, nth_of hx, ob, e, ob]
      simp only
      rw [rfrom_eq N (by omega) l _ hm, ob, fromOf, if_pos ⟨c, hi⟩]
  · rw [if_neg c, if_neg (fun h => c h.1)]
theorem lists_loop (N : Nat) (hN : Fu + 1 ≤ N) (a b : List (List Int)) (hl : a.length = b.length) (hm : a.length ≤ 9223372036854775807) (hi : ∀ x ∈ a, x.length ≤ 9223372036854775807) : ∀ (k i m : Nat), i + k = a.length → k < m →
    l_ref14_Lists_1 N m (a, b, (i : Int)) = some (if a.drop i = b.drop i then .inl () else .inr false)
  | k, i, 0, h1, h2 => by omega
  | 0, i, m + 1, h1, h2 => by
    rw [l_ref14_Lists_1_s, cd, if_neg (by omega), List.drop_eq_nil_of_le (by omega), List.drop_eq_nil_of_le (by omega), if_pos rfl]
  | k + 1, i, m + 1, h1, h2 => by
    obtain ⟨x, hx⟩ := get_at (xs := a) (i := i) (by omega)
    obtain ⟨y, hy⟩ := get_at (xs := b) (i := i) (by omega)
    rw [l_ref14_Lists_1_s, cd, if_pos (by omega), nth_of hx, ob, nth_of hy, ob, ints_eq N hN x y (hi x (List.mem_of_getElem? hx)), ob, cdn, w64n (by omega), lists_loop N hN a b hl hm hi k (i + 1) m (by omega) (by omega), drop_at hx, drop_at hy]
    by_cases h : x = y
    · simp [h]
    · simp [h]
theorem lists_eq (N : Nat) (hN : Fu + 2 ≤ N) (a b : List (List Int)) (hm : a.length ≤ 9223372036854775807) (hi : ∀ x ∈ a, x.length ≤ 9223372036854775807) : m_ref14_Lists N (a, b) = some (decide (a = b)) := by
  obtain ⟨N, rfl⟩ : ∃ n, N = n + 1 := ⟨N - 1, by omega⟩
  rw [m_ref14_Lists_eq, cdn]
  by_cases hl : a.length = b.length
  · rw [if_pos (by omega), show ((0 : Int) = ((0 : Nat) : Int)) from rfl, lists_loop N (by omega) a b hl hm hi a.length 0 N (by omega) (by have := Fu_eq; omega), ob, List.drop_zero, List.drop_zero]
    by_cases h : a = b <;> simp [h]
  · rw [if_neg (by omega)]
    have : ¬ a = b := fun e => hl (by rw [e])
    simp [this]
end Go.Proofs.Ytmgjokihljeemaa
