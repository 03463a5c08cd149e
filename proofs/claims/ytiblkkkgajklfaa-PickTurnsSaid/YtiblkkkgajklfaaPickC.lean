/- Marked nodes: what the functions compute, the program's and the document's. -/
import Derived.Test.YtiblkkkgajklfaaPickB
import Derived.Test.YtiblkkkgajklfaaFnp
set_option linter.unusedVariables false
set_option linter.unusedSimpArgs false
namespace Go.Proofs.Ytiblkkkgajklfaa
open Go Go.RowKit

theorem seg_mono {w : List Int} (hw : MarkR w) (i a b : Nat) (h : a ≤ b) : segS w i a ≤ segS w i b := by
  obtain ⟨c, rfl⟩ : ∃ c, b = a + c := ⟨b - a, by omega⟩
  rw [seg_add, ← pl_len hw _ c]; omega
theorem seg_one (w : List Int) (i d : Nat) : segS w i (d + 1) = segS w i d + hAt w ((i + d) % w.length) := rfl
/-- the first one -/
theorem pl_first {w : List Int} (hw : MarkR w) {i L j : Nat} (hj : j < L) (hm : hAt w ((i + j) % w.length) = 1) (hs : segS w i j = 0) : pl w i L = (((i + j) % w.length : Nat) : Int) :: pl w ((i + j + 1) % w.length) (L - j - 1) := by
  have e := pl_add w j i (L - j)
  rw [show j + (L - j) = L by omega] at e
  have h0 : pl w i j = [] := List.eq_nil_of_length_eq_zero (by have := pl_len hw i j; omega)
  rw [e, h0, List.nil_append, show L - j = (L - j - 1) + 1 by omega, pl, Nat.mod_mod, if_pos hm, Nat.mod_add_mod]
  rfl
/-! marks, made -/
theorem mark_loop (N : Nat) (l : List Bool) (t t2 : List Int) (t3 : List (List Int)) (hm : l.length ≤ 1000000) : ∀ (k i m : Nat), i + k = l.length → k < m →
    l_pick_Mark_1 N m (l, ((l.length : Nat) : Int), (i : Int), t, t2, t3, (List.range l.length).map fun j => if j < i then hAt (markOf l) j else 0) = some (t, t2, t3, (List.range l.length).map fun j => hAt (markOf l) j)
  | k, i, 0, h1, h2 => by omega
  | 0, i, m + 1, h1, h2 => by
    rw [l_pick_Mark_1_s, cd, if_neg (by omega)]
    have : ((List.range l.length).map fun j => if j < i then hAt (markOf l) j else 0) = (List.range l.length).map fun j => hAt (markOf l) j := List.map_congr_left fun j hj => by
      have := List.mem_range.1 hj
      rw [if_pos (by omega)]
    rw [this]
  | k + 1, i, m + 1, h1, h2 => by
    obtain ⟨b, hb⟩ := get_at (xs := l) (i := i) (by omega)
    have hx := map_get l.length i (fun j => if j < i then hAt (markOf l) j else 0) (by omega)
    have hv : hAt (markOf l) i = cond b 1 0 := hAt_of (by rw [markOf, List.getElem?_map, hb]; rfl)
    have key : ∀ x : Int, x = hAt (markOf l) i → ((List.range l.length).map fun j => if j = i then x else if j < i then hAt (markOf l) j else 0) = (List.range l.length).map fun j => if j < i + 1 then hAt (markOf l) j else 0 := fun x hx => List.map_congr_left fun j hj => by
      by_cases e : j = i
      · subst e
        rw [if_pos rfl, if_pos (by omega), hx]
      · rw [if_neg e]
        by_cases e2 : j < i
        · rw [if_pos e2, if_pos (by omega)]
        · rw [if_neg e2, if_neg (by omega)]
    rw [l_pick_Mark_1_s, cd, if_pos (by omega), nth_of hb, ob, w64n (by omega)]
    cases b with
    | true =>
      rw [cond_true, nth_of hx, ob, ob, Int.toNat_natCast, set_map, key 1 hv.symm]
      exact mark_loop N l t t2 t3 hm k (i + 1) m (by omega) (by omega)
    | false =>
      have : ((List.range l.length).map fun j => if j < i then hAt (markOf l) j else 0) = (List.range l.length).map fun j => if j < i + 1 then hAt (markOf l) j else 0 := List.map_congr_left fun j hj => by
        by_cases e2 : j < i
        · rw [if_pos e2, if_pos (by omega)]
        · rw [if_neg e2]
          by_cases e : j = i
          · subst e
            rw [if_pos (by omega), hv]; rfl
          · rw [if_neg (by omega)]
      rw [cond_false, this]
      exact mark_loop N l t t2 t3 hm k (i + 1) m (by omega) (by omega)
theorem rmark_loop (N : Nat) (l : List Bool) (t t2 : List Int) (t3 : List (List Int)) (hm : l.length ≤ 1000000) : ∀ (k i m : Nat), i + k = l.length → k < m →
    l_ref17_Mark_1 N m (l, (i : Int), t, t2, t3, (List.range l.length).map fun j => if j < i then hAt (markOf l) j else 0) = some (t, t2, t3, (List.range l.length).map fun j => hAt (markOf l) j)
  | k, i, 0, h1, h2 => by omega
  | 0, i, m + 1, h1, h2 => by
    rw [l_ref17_Mark_1_s, cd, if_neg (by omega)]
    have : ((List.range l.length).map fun j => if j < i then hAt (markOf l) j else 0) = (List.range l.length).map fun j => hAt (markOf l) j := List.map_congr_left fun j hj => by
      have := List.mem_range.1 hj
      rw [if_pos (by omega)]
    rw [this]
  | k + 1, i, m + 1, h1, h2 => by
    obtain ⟨b, hb⟩ := get_at (xs := l) (i := i) (by omega)
    have hx := map_get l.length i (fun j => if j < i then hAt (markOf l) j else 0) (by omega)
    have hv : hAt (markOf l) i = cond b 1 0 := hAt_of (by rw [markOf, List.getElem?_map, hb]; rfl)
    have key : ∀ x : Int, x = hAt (markOf l) i → ((List.range l.length).map fun j => if j = i then x else if j < i then hAt (markOf l) j else 0) = (List.range l.length).map fun j => if j < i + 1 then hAt (markOf l) j else 0 := fun x hx => List.map_congr_left fun j hj => by
      by_cases e : j = i
      · subst e
        rw [if_pos rfl, if_pos (by omega), hx]
      · rw [if_neg e]
        by_cases e2 : j < i
        · rw [if_pos e2, if_pos (by omega)]
        · rw [if_neg e2, if_neg (by omega)]
    rw [l_ref17_Mark_1_s, cd, if_pos (by omega), nth_of hb, ob, w64n (by omega)]
    cases b with
    | true =>
      rw [cond_true, nth_of hx, ob, ob, Int.toNat_natCast, set_map, key 1 hv.symm]
      exact rmark_loop N l t t2 t3 hm k (i + 1) m (by omega) (by omega)
    | false =>
      have : ((List.range l.length).map fun j => if j < i then hAt (markOf l) j else 0) = (List.range l.length).map fun j => if j < i + 1 then hAt (markOf l) j else 0 := List.map_congr_left fun j hj => by
        by_cases e2 : j < i
        · rw [if_pos e2, if_pos (by omega)]
        · rw [if_neg e2]
          by_cases e : j = i
          · subst e
            rw [if_pos (by omega), hv]; rfl
          · rw [if_neg (by omega)]
      rw [cond_false, this]
      exact rmark_loop N l t t2 t3 hm k (i + 1) m (by omega) (by omega)
theorem markOf_len (l : List Bool) : (markOf l).length = l.length := by simp [markOf]
theorem markOf_map (l : List Bool) : ((List.range l.length).map fun j => hAt (markOf l) j) = markOf l := by
  refine List.ext_getElem? fun j => ?_
  by_cases hj : j < l.length
  · rw [map_get _ _ _ hj, hAt_get (by rw [markOf_len]; exact hj)]
  · rw [List.getElem?_eq_none (by simp; omega), List.getElem?_eq_none (by rw [markOf_len]; omega)]
theorem mark_zero (l : List Bool) : ((List.range l.length).map fun j => if j < 0 then hAt (markOf l) j else 0) = List.replicate l.length 0 := by
  refine List.ext_getElem? fun j => ?_
  rw [List.getElem?_map, List.getElem?_replicate]
  by_cases hj : j < l.length
  · rw [List.getElem?_range hj, if_pos hj]; simp
  · rw [List.getElem?_eq_none (by simp; omega), if_neg hj]; rfl
theorem mark_eq (N : Nat) (hN : Fu + 9 ≤ N) (t t2 : List Int) (t3 : List (List Int)) (l : List Bool) (h1 : t.length ≤ 9223372036854775807) (h2 : t2.length ≤ 9223372036854775807) (h3 : l.length ≤ 1000000) : m_pick_Mark N (t, t2, t3, l) = some (sumOf t t2 t3 (markOf l)) := by
  obtain ⟨N, rfl⟩ : ∃ n, N = n + 1 := ⟨N - 1, by omega⟩
  have e := mark_loop N l t t2 t3 h3 l.length 0 N (by omega) (by have := Fu_eq; omega)
  rw [mark_zero, markOf_map, show ((0 : Nat) : Int) = (0 : Int) from rfl] at e
  rw [m_pick_Mark_eq, mak_of (by omega) (by omega) (by omega), ob, Int.toNat_natCast, e, ob]
  simp only
  rw [sbuild_o_eq N (by omega) t t2 t3 _ h1 h2 (by rw [markOf_len]; omega), ob]
theorem rmark_eq (N : Nat) (hN : Fu + 9 ≤ N) (t t2 : List Int) (t3 : List (List Int)) (l : List Bool) (h1 : t.length ≤ 9223372036854775807) (h2 : t2.length ≤ 9223372036854775807) (h3 : l.length ≤ 1000000) : m_ref17_Mark N (t, t2, t3, l) = some (sumOf t t2 t3 (markOf l)) := by
  obtain ⟨N, rfl⟩ : ∃ n, N = n + 1 := ⟨N - 1, by omega⟩
  have e := rmark_loop N l t t2 t3 h3 l.length 0 N (by omega) (by have := Fu_eq; omega)
  rw [mark_zero, markOf_map, show ((0 : Nat) : Int) = (0 : Int) from rfl] at e
  rw [m_ref17_Mark_eq, mak_of (by omega) (by omega) (by omega), ob, Int.toNat_natCast, e, ob]
  simp only
  rw [rbuilds_o N (by omega) t t2 t3 _ h1 h2 (by rw [markOf_len]; omega), ob]
/-! are they marks? -/
theorem mark_cons {x : Int} {l : List Int} : MarkR (x :: l) ↔ (x = 0 ∨ x = 1) ∧ MarkR l := ⟨fun e => ⟨e x (by simp), fun t ht => e t (by simp [ht])⟩, fun e t ht => by
  rcases List.mem_cons.1 ht with rfl | ht
  · exact e.1
  · exact e.2 t ht⟩
theorem shr_one (x : Int) : (Int.fdiv x ((2 : Int) ^ (min (Int.toNat (1 : Int)) (64 : Nat))) = 0) ↔ (x = 0 ∨ x = 1) := by
  rw [show ((2 : Int) ^ (min (Int.toNat (1 : Int)) (64 : Nat))) = 2 from rfl, Int.fdiv_eq_ediv_of_nonneg x (by omega : (0 : Int) ≤ 2)]
  omega
theorem pright_loop (N : Nat) (w : List Int) (hm : w.length ≤ 1000000) : ∀ (k i m : Nat), i + k = w.length → k < m →
    l_pick_Right_1 N m (((w.length : Nat) : Int), (i : Int), w) = some (if MarkR (w.drop i) then .inl w else .inr false)
  | k, i, 0, h1, h2 => by omega
  | 0, i, m + 1, h1, h2 => by
    rw [l_pick_Right_1_s, cd, if_neg (by omega), List.drop_eq_nil_of_le (by omega), if_pos (by intro t h; cases h)]
  | k + 1, i, m + 1, h1, h2 => by
    obtain ⟨x, hx⟩ := get_at (xs := w) (i := i) (by omega)
    rw [l_pick_Right_1_s, cd, if_pos (by omega), nth_of hx, ob, ob, cdn, w64n (by omega), pright_loop N w hm k (i + 1) m (by omega) (by omega), drop_at hx]
    by_cases c : x = 0 ∨ x = 1
    · rw [if_pos ((shr_one x).2 c)]
      by_cases c2 : MarkR (w.drop (i + 1))
      · rw [if_pos c2, if_pos (mark_cons.2 ⟨c, c2⟩)]
      · rw [if_neg c2, if_neg (fun h => c2 (mark_cons.1 h).2)]
    · rw [if_neg (fun h => c ((shr_one x).1 h)), if_neg (fun h => c (mark_cons.1 h).1)]
theorem rpright_loop (N : Nat) (w : List Int) (hm : w.length ≤ 1000000) : ∀ (k i m : Nat), i + k = w.length → k < m →
    l_ref17_Right_1 N m ((i : Int), w) = some (if MarkR (w.drop i) then .inl w else .inr false)
  | k, i, 0, h1, h2 => by omega
  | 0, i, m + 1, h1, h2 => by
    rw [l_ref17_Right_1_s, cd, if_neg (by omega), List.drop_eq_nil_of_le (by omega), if_pos (by intro t h; cases h)]
  | k + 1, i, m + 1, h1, h2 => by
    obtain ⟨x, hx⟩ := get_at (xs := w) (i := i) (by omega)
    rw [l_ref17_Right_1_s, cd, if_pos (by omega), nth_of hx, ob, ob, cdn, w64n (by omega), rpright_loop N w hm k (i + 1) m (by omega) (by omega), drop_at hx]
    have key : ∀ c : x = 0 ∨ x = 1, (if MarkR (w.drop (i + 1)) then (.inl w : List Int ⊕ Bool) else .inr false) = if MarkR (x :: w.drop (i + 1)) then .inl w else .inr false := fun c => by
      by_cases c2 : MarkR (w.drop (i + 1))
      · rw [if_pos c2, if_pos (mark_cons.2 ⟨c, c2⟩)]
      · rw [if_neg c2, if_neg (fun h => c2 (mark_cons.1 h).2)]
    by_cases c0 : x = 0
    · rw [if_pos c0, key (.inl c0)]
    · rw [if_neg c0, ob, ob, cdn]
      by_cases c1 : x = 1
      · rw [if_pos c1, key (.inr c1)]
      · rw [if_neg c1, if_neg (fun h => (mark_cons.1 h).1.elim c0 c1)]
theorem pright_eq (N : Nat) (hN : Fu + 10 ≤ N) (t t2 : List Int) (t3 s : List (List Int)) (h1 : t.length ≤ 9223372036854775807) (h2 : t2.length ≤ 9223372036854775807) (h3 : s.length ≤ 100000) : m_pick_Right N (t, t2, t3, s) = some (decide (PickR t t2 t3 s)) := by
  obtain ⟨N, rfl⟩ : ∃ n, N = n + 1 := ⟨N - 1, by omega⟩
  have hl := weightsOf_len t t2 t3 s
  have e := pright_loop N (weightsOf t t2 t3 s) (by omega) (weightsOf t t2 t3 s).length 0 N (by omega) (by have := Fu_eq; omega)
  rw [List.drop_zero, show ((0 : Nat) : Int) = (0 : Int) from rfl] at e
  rw [m_pick_Right_eq, weights_eq N (by omega) t t2 t3 s h1 h2 h3, ob, e, ob]
  by_cases c : ¬ SumsR t t2 t3 s
  · rw [weights_zero c, if_pos (by intro t h; cases h)]
    simp only
    congr 1
    rw [decide_eq_false (show ¬ PickR t t2 t3 s from fun h => c h.1)]
    rfl
  have c := Decidable.not_not.1 c
  have k := sumsR_len c
  rw [weights_pos c]
  by_cases c2 : MarkR (firstsOf s)
  · rw [if_pos c2]
    simp only
    rw [decide_eq_true (show PickR t t2 t3 s from ⟨c, c2⟩), decide_eq_true (by omega)]
  · rw [if_neg c2]
    simp only
    rw [decide_eq_false (show ¬ PickR t t2 t3 s from fun h => c2 h.2)]
theorem rpright_eq (N : Nat) (hN : Fu + 10 ≤ N) (t t2 : List Int) (t3 s : List (List Int)) (h1 : t.length ≤ 9223372036854775807) (h2 : t2.length ≤ 9223372036854775807) (h3 : s.length ≤ 100000) : m_ref17_Right N (t, t2, t3, s) = some (decide (PickR t t2 t3 s)) := by
  obtain ⟨N, rfl⟩ : ∃ n, N = n + 1 := ⟨N - 1, by omega⟩
  have hl := weightsOf_len t t2 t3 s
  have e := rpright_loop N (weightsOf t t2 t3 s) (by omega) (weightsOf t t2 t3 s).length 0 N (by omega) (by have := Fu_eq; omega)
  rw [List.drop_zero, show ((0 : Nat) : Int) = (0 : Int) from rfl] at e
  rw [m_ref17_Right_eq, rweights_eq N (by omega) t t2 t3 s h1 h2 h3, ob, e, ob]
  by_cases c : ¬ SumsR t t2 t3 s
  · rw [weights_zero c, if_pos (by intro t h; cases h)]
    simp only
    congr 1
    rw [decide_eq_false (show ¬ PickR t t2 t3 s from fun h => c h.1)]
    rfl
  have c := Decidable.not_not.1 c
  have k := sumsR_len c
  rw [weights_pos c]
  by_cases c2 : MarkR (firstsOf s)
  · rw [if_pos c2]
    simp only
    rw [decide_eq_true (show PickR t t2 t3 s from ⟨c, c2⟩), decide_eq_true (by omega)]
  · rw [if_neg c2]
    simp only
    rw [decide_eq_false (show ¬ PickR t t2 t3 s from fun h => c2 h.2)]
end Go.Proofs.Ytiblkkkgajklfaa
