/- Towers: the document's, and what is read of both, told plainly. -/
import Derived.Test.YtggnolfcgaglfaaTowB
set_option linter.unusedVariables false
set_option linter.unusedSimpArgs false
namespace Go.Proofs.Ytggnolfcgaglfaa
open Go Go.RowKit

/-! the document's Build -/
theorem r1 (N : Nat) (ts hs : List Int) (hm : hs.length ≤ 9223372036854775807) : ∀ (k i m : Nat), i + k = hs.length → k < m →
    l_ref14_Build_1 N m (ts, hs, ((hs.length : Nat) : Int), (i : Int)) = some (if HighR (hs.drop i) then .inl (ts, hs, ((hs.length : Nat) : Int)) else .inr 1)
  | k, i, 0, h1, h2 => by omega
  | 0, i, m + 1, h1, h2 => by
    rw [l_ref14_Build_1_s, cd, if_neg (by omega), List.drop_eq_nil_of_le (by omega), if_pos (by intro t h; cases h)]
  | k + 1, i, m + 1, h1, h2 => by
    obtain ⟨x, hx⟩ := get_at (xs := hs) (i := i) (by omega)
    rw [l_ref14_Build_1_s, cd, if_pos (by omega), nth_of hx, ob, cd, drop_at hx]
    by_cases c1 : x < 1
    · rw [if_pos c1, if_neg (fun e => by have := e x (by simp); omega)]
    rw [if_neg c1, ob, cd]
    by_cases c2 : 8 < x
    · rw [if_pos c2, if_neg (fun e => by have := e x (by simp); omega)]
    rw [if_neg c2, w64n (by omega), r1 N ts hs hm k (i + 1) m (by omega) (by omega)]
    have : HighR (x :: hs.drop (i + 1)) ↔ HighR (hs.drop (i + 1)) := ⟨fun e t ht => e t (by simp [ht]), fun e t ht => by
      rcases List.mem_cons.1 ht with rfl | ht
      · omega
      · exact e t ht⟩
    by_cases h3 : HighR (hs.drop (i + 1))
    · rw [if_pos h3, if_pos (this.2 h3)]
    · rw [if_neg h3, if_neg (fun e => h3 (this.1 e))]
theorem r4 (N : Nat) (hs : List Int) (n i h : Nat) (l v2 v3 : List Int) (v5 : List (List Int)) (hn : n = hs.length) (hi : i < n) (h1000 : n ≤ 1000) (hh : (h : Int) < hAt hs i) : ∀ (q k m : Nat), k + q = dist hs i h → 1 ≤ k → q < m →
    l_ref14_Build_4 N m (hs, (n : Int), (i : Int), (h : Int), (k : Int), l, v2, v3, v5) = some (hs, (n : Int), (i : Int), (h : Int), ((dist hs i h : Nat) : Int), l, v2, v3, v5)
  | q, k, 0, h1, h2, h3 => by omega
  | q, k, m + 1, h1, h2, h3 => by
    subst hn
    obtain ⟨d1, d2, d3, d4⟩ := dist_ok hi hh
    have hml := Nat.mod_lt (i + k) (show 0 < hs.length by omega)
    have hx := hAt_get hml
    rw [l_ref14_Build_4_s, rem_of (by omega), w64 (by omega) (by omega), show (i : Int) + (k : Int) = ((i + k : Nat) : Int) by omega, tmod_nat, ob, nth_of hx, ob, cd]
    cases q with
    | zero =>
      have : k = dist hs i h := by omega
      subst this
      rw [if_neg (by omega)]
    | succ q =>
      rw [if_pos (by have := d4 k h2 (by omega); omega), w64n (by omega)]
      exact r4 N hs hs.length i h l v2 v3 v5 rfl hi h1000 hh q (k + 1) m (by omega) (by omega) (by omega)
theorem r3 (N : Nat) (hN : Fu + 1 ≤ N) (hs : List Int) (n i H : Nat) (v2 v3 : List Int) (v5 : List (List Int)) (hn : n = hs.length) (hi : i < n) (h1000 : n ≤ 1000) (hH : hAt hs i = (H : Int)) (h8 : H ≤ 8) : ∀ (q h m : Nat), h + q = H → q < m →
    l_ref14_Build_3 N m (hs, (n : Int), (i : Int), (h : Int), (List.range h).map (linkOf hs i), v2, v3, v5) = some (hs, (n : Int), (i : Int), (List.range H).map (linkOf hs i), v2, v3, v5)
  | q, h, 0, h1, h2 => by omega
  | 0, h, m + 1, h1, h2 => by
    subst hn
    have hx := hAt_get hi
    rw [hH] at hx
    rw [l_ref14_Build_3_s, nth_of hx, ob, cd, if_neg (by omega)]
    have : h = H := by omega
    rw [this]
  | q + 1, h, m + 1, h1, h2 => by
    subst hn
    have hx := hAt_get hi
    rw [hH] at hx
    obtain ⟨d1, d2, d3, d4⟩ := dist_ok (h := h) hi (by omega)
    rw [l_ref14_Build_3_s, nth_of hx, ob, cd, if_pos (by omega), show ((1 : Int) = ((1 : Nat) : Int)) from rfl, r4 N hs hs.length i h _ v2 v3 v5 rfl hi h1000 (by omega) (dist hs i h - 1) 1 N (by omega) (by omega) (by have := Fu_eq; omega), ob]
    simp only
    rw [w64 (x := (i : Int) + ((dist hs i h : Nat) : Int)) (by omega) (by omega), rem_of (by omega), show (i : Int) + ((dist hs i h : Nat) : Int) = ((i + dist hs i h : Nat) : Int) by omega, tmod_nat, ob, app_of (by omega) (by simp; omega), ob, show (h : Int) + ((1 : Nat) : Int) = (h : Int) + 1 from rfl, w64n (by omega)]
    have : (List.range h).map (linkOf hs i) ++ [(((i + dist hs i h) % hs.length : Nat) : Int)] = (List.range (h + 1)).map (linkOf hs i) := by
      rw [List.range_succ, List.map_append]; rfl
    rw [this]
    exact r3 N hN hs hs.length i H v2 v3 v5 rfl hi h1000 hH h8 q (h + 1) m (by omega) (by omega)
theorem r2 (N : Nat) (hN : Fu + 1 ≤ N) (hs v2 v3 : List Int) (hh : HighR hs) (h1000 : hs.length ≤ 1000) : ∀ (q i m : Nat), i + q = hs.length → q < m →
    l_ref14_Build_2 N m (hs, ((hs.length : Nat) : Int), (i : Int), v2, v3, (List.range i).map (linksOf hs)) = some (v2, v3, nextOf hs)
  | q, i, 0, h1, h2 => by omega
  | 0, i, m + 1, h1, h2 => by
    rw [l_ref14_Build_2_s, cd, if_neg (by omega)]
    have : i = hs.length := by omega
    rw [this]; rfl
  | q + 1, i, m + 1, h1, h2 => by
    have hb := high_at hh (j := i) (by omega)
    obtain ⟨H, hH⟩ : ∃ H : Nat, hAt hs i = (H : Int) := ⟨_, (Int.toNat_of_nonneg (by omega)).symm⟩
    have := r3 N hN hs hs.length i H v2 v3 ((List.range i).map (linksOf hs)) rfl (by omega) h1000 hH (by omega) H 0 N (by omega) (by have := Fu_eq; omega)
    rw [show (List.range 0).map (linkOf hs i) = [] from rfl] at this
    rw [l_ref14_Build_2_s, cd, if_pos (by omega), show ((0 : Int) = ((0 : Nat) : Int)) from rfl, this, ob]
    simp only
    rw [app_of (by omega) (by simp; omega), ob, w64n (by omega)]
    have e : (List.range i).map (linksOf hs) ++ [(List.range H).map (linkOf hs i)] = (List.range (i + 1)).map (linksOf hs) := by
      rw [List.range_succ, List.map_append]
      simp only [List.map_cons, List.map_nil, linksOf, hH, Int.toNat_natCast]
    rw [e]
    exact r2 N hN hs v2 v3 hh h1000 q (i + 1) m (by omega) (by omega)
theorem rbuild_eq (N : Nat) (hN : Fu + 5 ≤ N) (ts hs : List Int) (h1 : ts.length ≤ 9223372036854775807) (h2 : hs.length ≤ 9223372036854775807) : m_ref14_Build N (ts, hs) = some (buildOf ts hs) := by
  obtain ⟨N, rfl⟩ : ∃ n, N = n + 1 := ⟨N - 1, by omega⟩
  unfold buildOf
  rw [m_ref14_Build_eq, rring_eq N (by omega) ts h1, ob]
  by_cases c2 : ¬ RingR ts
  · rw [if_neg (fun h => c2 h.2.2.1)]
    simp [c2]
  have c2 := Decidable.not_not.1 c2
  simp only [c2, decide_true, Bool.not_true, cond_false]
  rw [cd]
  by_cases c0 : ts = []
  · subst c0; simp [TowR]
  have c0' : ¬ ts.length = 0 := fun e => c0 (List.length_eq_zero_iff.1 e)
  rw [if_neg (by omega), cdn]
  by_cases c1 : hs.length ≠ ts.length
  · rw [if_neg (by omega), if_neg (fun h => c1 h.2.1)]
  have c1 := Decidable.not_not.1 c1
  have hlen := c2.1
  rw [if_pos (by omega), ← c1, show ((0 : Int) = ((0 : Nat) : Int)) from rfl, r1 N ts hs h2 hs.length 0 N (by omega) (by have := Fu_eq; omega), ob, List.drop_zero]
  by_cases c3 : ¬ HighR hs
  · rw [if_neg c3, if_neg (fun h => c3 h.2.2.2)]
  have c3 := Decidable.not_not.1 c3
  rw [if_pos c3, if_pos ⟨c0, c1, c2, c3⟩]
  simp only
  have := r2 N (by omega) hs ts hs c3 (by omega) hs.length 0 N (by omega) (by have := Fu_eq; omega)
  rw [app_of (by omega) (by simp; omega), ob, app_of (by omega) (by simp; omega), ob, List.nil_append, List.nil_append]
  rw [show (List.range 0).map (linksOf hs) = [] from rfl] at this
  rw [this]
  rfl

/-! the same ones; right ones -/
/-- lists that a world can hold -/
def Lens (t : List Int × List Int × List (List Int)) : Prop := t.1.length ≤ 9223372036854775807 ∧ t.2.1.length ≤ 9223372036854775807 ∧ t.2.2.length ≤ 9223372036854775807 ∧ ∀ x ∈ t.2.2, x.length ≤ 9223372036854775807
theorem same_eq (N : Nat) (hN : Fu + 3 ≤ N) (a a2 : List Int) (a3 : List (List Int)) (b b2 : List Int) (b3 : List (List Int)) (h : Lens (a, a2, a3)) : m_tower_Same N (a, a2, a3, b, b2, b3) = some (decide ((a, a2, a3) = (b, b2, b3))) := by
  obtain ⟨N, rfl⟩ : ∃ n, N = n + 1 := ⟨N - 1, by omega⟩
  obtain ⟨h1, h2, h3, h4⟩ := h
  rw [m_tower_Same_eq, equal_eq N (by omega) a b h1, equal_eq N (by omega) a2 b2 h2, equals_eq N (by omega) a3 b3 h3 h4, ob, ob]
  by_cases c1 : a = b <;> by_cases c2 : a2 = b2 <;> by_cases c3 : a3 = b3 <;> simp [c1, c2, c3, ob]
theorem rsame_eq (N : Nat) (hN : Fu + 3 ≤ N) (a a2 : List Int) (a3 : List (List Int)) (b b2 : List Int) (b3 : List (List Int)) (h : Lens (a, a2, a3)) : m_ref14_Same N (a, a2, a3, b, b2, b3) = some (decide ((a, a2, a3) = (b, b2, b3))) := by
  obtain ⟨N, rfl⟩ : ∃ n, N = n + 1 := ⟨N - 1, by omega⟩
  obtain ⟨h1, h2, h3, h4⟩ := h
  rw [m_ref14_Same_eq, ints_eq N (by omega) a b h1, ints_eq N (by omega) a2 b2 h2, lists_eq N (by omega) a3 b3 h3 h4, ob, ob]
  by_cases c1 : a = b <;> by_cases c2 : a2 = b2 <;> by_cases c3 : a3 = b3 <;> simp [c1, c2, c3, ob]
theorem next_len {hs x : List Int} (hh : HighR hs) (hx : x ∈ nextOf hs) : x.length ≤ 8 := by
  unfold nextOf at hx
  obtain ⟨i, hi, rfl⟩ := List.mem_map.1 hx
  have := high_at hh (List.mem_range.1 hi)
  simp only [linksOf, List.length_map, List.length_range]
  omega
theorem build_lens {ts hs : List Int} (h : TowR ts hs) : Lens (ts, hs, nextOf hs) := by
  have h1 := h.2.2.1.1
  have h2 := h.2.1
  refine ⟨by simp only; omega, by simp only; omega, by simp only [nextOf, List.length_map, List.length_range]; omega, fun x hx => ?_⟩
  have := next_len h.2.2.2 hx
  omega
def TowerR (t t2 : List Int) (t3 : List (List Int)) : Prop := TowR t t2 ∧ t3 = nextOf t2
instance (t t2 : List Int) (t3 : List (List Int)) : Decidable (TowerR t t2 t3) := by unfold TowerR; exact inferInstance
theorem tright_eq (N : Nat) (hN : Fu + 6 ≤ N) (t t2 : List Int) (t3 : List (List Int)) (h1 : t.length ≤ 9223372036854775807) (h2 : t2.length ≤ 9223372036854775807) : m_tower_Right N (t, t2, t3) = some (decide (TowerR t t2 t3)) := by
  obtain ⟨N, rfl⟩ : ∃ n, N = n + 1 := ⟨N - 1, by omega⟩
  rw [m_tower_Right_eq, build_eq N (by omega) t t2 h1 h2, ob]
  unfold buildOf
  by_cases h : TowR t t2
  · rw [if_pos h]
    simp only
    rw [same_eq N (by omega) _ _ _ _ _ _ (build_lens h), ob]
    by_cases c : t3 = nextOf t2
    · have : TowerR t t2 t3 := ⟨h, c⟩
      subst c
      simp [this]
    · have : ¬ TowerR t t2 t3 := fun e => c e.2
      have c' : ¬ nextOf t2 = t3 := fun e => c e.symm
      simp [c', this]
  · rw [if_neg h]
    have : ¬ TowerR t t2 t3 := fun e => h e.1
    simp [this]
theorem rright_eq (N : Nat) (hN : Fu + 6 ≤ N) (t t2 : List Int) (t3 : List (List Int)) (h1 : t.length ≤ 9223372036854775807) (h2 : t2.length ≤ 9223372036854775807) : m_ref14_Right N (t, t2, t3) = some (decide (TowerR t t2 t3)) := by
  obtain ⟨N, rfl⟩ : ∃ n, N = n + 1 := ⟨N - 1, by omega⟩
  rw [m_ref14_Right_eq, rbuild_eq N (by omega) t t2 h1 h2, ob]
  unfold buildOf
  by_cases h : TowR t t2
  · rw [if_pos h]
    simp only
    rw [rsame_eq N (by omega) _ _ _ _ _ _ (build_lens h), ob]
    by_cases c : t3 = nextOf t2
    · have : TowerR t t2 t3 := ⟨h, c⟩
      subst c
      simp [this]
    · have : ¬ TowerR t t2 t3 := fun e => c e.2
      have c' : ¬ nextOf t2 = t3 := fun e => c e.symm
      simp [c', this]
  · rw [if_neg h]
    have : ¬ TowerR t t2 t3 := fun e => h e.1
    simp [this]
end Go.Proofs.Ytggnolfcgaglfaa
