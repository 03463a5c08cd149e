/- Marked nodes: the document's; turned. -/
import Derived.Test.YtiblkkkgajklfaaPickD
set_option linter.unusedVariables false
set_option linter.unusedSimpArgs false
namespace Go.Proofs.Ytiblkkkgajklfaa
open Go Go.RowKit

theorem rfirst1 (N : Nat) (t t2 : List Int) (t3 s : List (List Int)) (h : PickR t t2 t3 s) (k : Int) (a : Nat) (ha : a < t2.length) : ∀ (q i m : Nat) (acc : List Int), i + q = t2.length → q < m → acc.length ≤ i →
    l_ref17_First_1 N m (s, (a : Int), k, ((t2.length : Nat) : Int), (i : Int), acc) = some (acc ++ (pl (firstsOf s) (a + i) q).take (k.toNat - acc.length))
  | q, i, 0, acc, h1, h2, h3 => by omega
  | 0, i, m + 1, acc, h1, h2, h3 => by
    rw [l_ref17_First_1_s, cd, if_neg (by omega)]; simp [pl]
  | q + 1, i, m + 1, acc, h1, h2, h3 => by
    obtain ⟨k1, k2, k3, k4⟩ := sumsR_len h.1
    have hml := Nat.mod_lt (a + i) (show 0 < t2.length by omega)
    have hb := high_at h.1.2.1.2.1.1.2.2.2 hml
    obtain ⟨x, y, g1, g2, g3, g4⟩ := look h.1 (l := 0) hml (by omega)
    rw [dist_zero h.1.2.1.2.1.1.2.2.2 hml, show (1 : Nat) = 0 + 1 from rfl, seg_one, k1, Nat.add_zero, Nat.mod_mod] at g2
    simp only [segS, Int.zero_add] at g2
    rw [l_ref17_First_1_s, cd, if_pos (by omega), cd]
    by_cases c : ((acc.length : Nat) : Int) < k
    · rw [if_pos c, ← Int.natCast_add, w64 (by omega) (by omega), rem_of (by omega), tmod_nat, ob, nth_of g1, ob, show ((0 : Int) = ((0 : Nat) : Int)) from rfl, nth_of g2, ob, cd, pl, k1]
      by_cases c2 : hAt (firstsOf s) ((a + i) % t2.length) = 1
      · rw [if_pos c2, if_pos c2, app_of (by omega) (by simp; omega), ob, w64n (by omega), rfirst1 N t t2 t3 s h k a ha q (i + 1) m _ (by omega) (by omega) (by simp; omega), show k.toNat - acc.length = (k.toNat - (acc ++ [(((a + i) % t2.length : Nat) : Int)]).length) + 1 by simp; omega, List.take_succ_cons]
        have e : pl (firstsOf s) ((a + i + 1) % t2.length) q = pl (firstsOf s) (a + (i + 1)) q := by
          have := pl_mod (firstsOf s) (a + i + 1) q
          rw [k1] at this
          exact this
        rw [e]; simp
      · rw [if_neg c2, if_neg c2, w64n (by omega), rfirst1 N t t2 t3 s h k a ha q (i + 1) m _ (by omega) (by omega) (by omega)]
        have e : pl (firstsOf s) ((a + i + 1) % t2.length) q = pl (firstsOf s) (a + (i + 1)) q := by
          have := pl_mod (firstsOf s) (a + i + 1) q
          rw [k1] at this
          exact this
        rw [e]
    · rw [if_neg c, show k.toNat - acc.length = 0 by omega]; simp
theorem rfirst_eq (N : Nat) (hN : Fu + 12 ≤ N) (t t2 : List Int) (t3 s : List (List Int)) (a k : Int) (h1 : t.length ≤ 9223372036854775807) (h2 : t2.length ≤ 9223372036854775807) (h3 : s.length ≤ 100000) : m_ref17_First N (t, t2, t3, s, a, k) = some (firstOf t t2 t3 s a k) := by
  obtain ⟨N, rfl⟩ : ∃ n, N = n + 1 := ⟨N - 1, by omega⟩
  rw [m_ref17_First_eq, rpright_eq N (by omega) t t2 t3 s h1 h2 h3, ob, cdn, firstOf]
  by_cases c : PickR t t2 t3 s
  · obtain ⟨k1, k2, k3, k4⟩ := sumsR_len c.1
    rw [if_pos c, if_pos c, cd, k2]
    by_cases c1 : a < 0
    · rw [if_pos c1, if_neg (by omega)]
    rw [if_neg c1, cd]
    by_cases c2 : ((t.length : Nat) : Int) ≤ a
    · rw [if_pos c2, if_neg (by omega)]
    obtain ⟨i, rfl⟩ : ∃ i : Nat, a = (i : Int) := ⟨a.toNat, by omega⟩
    have e := rfirst1 N t t2 t3 s c k i (by omega) t2.length 0 N [] (by omega) (by have := Fu_eq; omega) (by simp)
    rw [k2, show ((0 : Nat) : Int) = (0 : Int) from rfl] at e
    rw [if_neg c2, if_pos (by omega), e, ob]; simp
  · rw [if_neg c, if_neg c]
theorem rnth_eq (N : Nat) (hN : Fu + 13 ≤ N) (t t2 : List Int) (t3 s : List (List Int)) (a k : Int) (h1 : t.length ≤ 9223372036854775807) (h2 : t2.length ≤ 9223372036854775807) (h3 : s.length ≤ 100000) : m_ref17_Nth N (t, t2, t3, s, a, k) = some (nthOf t t2 t3 s a k) := by
  obtain ⟨N, rfl⟩ : ∃ n, N = n + 1 := ⟨N - 1, by omega⟩
  rw [m_ref17_Nth_eq, rfirst_eq N (by omega) t t2 t3 s a _ h1 h2 h3, ob, firstOf, nthOf]
  by_cases c : PickR t t2 t3 s
  · obtain ⟨k1, k2, k3, k4⟩ := sumsR_len c.1
    rw [if_pos c, if_pos c]
    by_cases c2 : 0 ≤ a ∧ a < (t2.length : Int)
    · rw [if_pos c2, if_pos c2]
      have hle := pl_le (w := firstsOf s) t2.length a.toNat
      simp only [decide_true, Bool.not_true, cond_false]
      rw [List.take_of_length_le (by rw [show (1000 : Int).toNat = 1000 from rfl]; omega), cd]
      by_cases c3 : k < 0
      · rw [if_pos c3, if_neg (by omega)]
      rw [if_neg c3, cd]
      by_cases c4 : (((pl (firstsOf s) a.toNat t2.length).length : Nat) : Int) ≤ k
      · rw [if_pos c4, if_neg (by omega)]
      obtain ⟨x, hx⟩ := get_at (xs := pl (firstsOf s) a.toNat t2.length) (i := k.toNat) (by omega)
      rw [if_neg c4, if_pos (by omega), nth_at hx (by omega), ob, ob, List.getD_eq_getElem?_getD, hx]; rfl
    · rw [if_neg c2, if_neg c2]; rfl
  · rw [if_neg c, if_neg c]; rfl
theorem prank_eq (N : Nat) (hN : Fu + 11 ≤ N) (t t2 : List Int) (t3 s : List (List Int)) (a b : Int) (h1 : t.length ≤ 9223372036854775807) (h2 : t2.length ≤ 9223372036854775807) (h3 : s.length ≤ 100000) : m_pick_Rank N (t, t2, t3, s, a, b) = some (rankOf t t2 t3 s a b) := by
  obtain ⟨N, rfl⟩ : ∃ n, N = n + 1 := ⟨N - 1, by omega⟩
  rw [m_pick_Rank_eq, pright_eq N (by omega) t t2 t3 s h1 h2 h3, ob, cdn, rankOf]
  by_cases c : PickR t t2 t3 s
  · rw [if_pos c, if_pos c, between_eq N (by omega) t t2 t3 s a b h1 h2 h3, ob]
  · rw [if_neg c, if_neg c]
theorem rrank_eq (N : Nat) (hN : Fu + 11 ≤ N) (t t2 : List Int) (t3 s : List (List Int)) (a b : Int) (h1 : t.length ≤ 9223372036854775807) (h2 : t2.length ≤ 9223372036854775807) (h3 : s.length ≤ 100000) : m_ref17_Rank N (t, t2, t3, s, a, b) = some (rankOf t t2 t3 s a b) := by
  obtain ⟨N, rfl⟩ : ∃ n, N = n + 1 := ⟨N - 1, by omega⟩
  rw [m_ref17_Rank_eq, rpright_eq N (by omega) t t2 t3 s h1 h2 h3, ob, cdn, rankOf]
  by_cases c : PickR t t2 t3 s
  · rw [if_pos c, if_pos c, rbetween_eq N (by omega) t t2 t3 s a b h1 h2 h3, ob]
  · rw [if_neg c, if_neg c]
/-! turned -/
theorem xor_one {x : Int} (h : x = 0 ∨ x = 1) : bitI .xor .i64 x 1 = 1 - x := by
  rw [bitI_eq]
  rcases h with rfl | rfl <;> decide
theorem turn_loop (N : Nat) (ps t t2 : List Int) (t3 : List (List Int)) (hm : ps.length ≤ 1000000) : ∀ (k i m : Nat) (w : List Int), MarkR w → i + k = ps.length → k < m →
    l_pick_Turn_1 N m (ps, ((ps.length : Nat) : Int), (i : Int), t, t2, t3, w) = some (if PlR w.length (ps.drop i) then .inl (t, t2, t3, flipAll w (ps.drop i)) else .inr 6)
  | k, i, 0, w, hw, h1, h2 => by omega
  | 0, i, m + 1, w, hw, h1, h2 => by
    rw [l_pick_Turn_1_s, cd, if_neg (by omega), List.drop_eq_nil_of_le (by omega), if_pos (by intro t h; cases h)]; rfl
  | k + 1, i, m + 1, w, hw, h1, h2 => by
    obtain ⟨p, hp⟩ := get_at (xs := ps) (i := i) (by omega)
    rw [l_pick_Turn_1_s, cd, if_pos (by omega), nth_of hp, ob, cd, drop_at hp]
    by_cases c1 : p < 0
    · rw [if_pos c1, if_neg (fun e => by have := e p (by simp); omega)]
    rw [if_neg c1, cd]
    by_cases c2 : ((w.length : Nat) : Int) ≤ p
    · rw [if_pos c2, if_neg (fun e => by have := e p (by simp); omega)]
    have hy := hAt_get (hs := w) (j := p.toNat) (by omega)
    rw [if_neg c2, nth_at hy (by omega), ob, ob, ob, ob, w64n (by omega), xor_one (mark_at hw _)]
    have ih := turn_loop N ps t t2 t3 hm k (i + 1) m (flip1 w p.toNat) (flip1_mark hw _) (by omega) (by omega)
    rw [flip1_len] at ih
    unfold flip1 at ih
    rw [ih, flipAll, flip1]
    by_cases c3 : PlR w.length (ps.drop (i + 1))
    · rw [if_pos c3, if_pos ((pl_cons ⟨by omega, by omega⟩).2 c3)]
    · rw [if_neg c3, if_neg (fun e => c3 ((pl_cons ⟨by omega, by omega⟩).1 e))]
theorem rturn_loop (N : Nat) (ps t t2 : List Int) (t3 : List (List Int)) (hm : ps.length ≤ 1000000) : ∀ (k i m : Nat) (w : List Int), MarkR w → i + k = ps.length → k < m →
    l_ref17_Turn_1 N m (ps, (i : Int), t, t2, t3, w) = some (if PlR w.length (ps.drop i) then .inl (t, t2, t3, flipAll w (ps.drop i)) else .inr 6)
  | k, i, 0, w, hw, h1, h2 => by omega
  | 0, i, m + 1, w, hw, h1, h2 => by
    rw [l_ref17_Turn_1_s, cd, if_neg (by omega), List.drop_eq_nil_of_le (by omega), if_pos (by intro t h; cases h)]; rfl
  | k + 1, i, m + 1, w, hw, h1, h2 => by
    obtain ⟨p, hp⟩ := get_at (xs := ps) (i := i) (by omega)
    rw [l_ref17_Turn_1_s, cd, if_pos (by omega), nth_of hp, ob, cd, drop_at hp]
    by_cases c1 : p < 0
    · rw [if_pos c1, if_neg (fun e => by have := e p (by simp); omega)]
    rw [if_neg c1, ob, cd]
    by_cases c2 : ((w.length : Nat) : Int) ≤ p
    · rw [if_pos c2, if_neg (fun e => by have := e p (by simp); omega)]
    have hy := hAt_get (hs := w) (j := p.toNat) (by omega)
    have hmk := mark_at hw p.toNat
    rw [if_neg c2, ob, ob, nth_at hy (by omega), ob, ob, ob, ob, w64n (by omega), w64 (by omega) (by omega)]
    have ih := rturn_loop N ps t t2 t3 hm k (i + 1) m (flip1 w p.toNat) (flip1_mark hw _) (by omega) (by omega)
    rw [flip1_len] at ih
    unfold flip1 at ih
    rw [ih, flipAll, flip1]
    by_cases c3 : PlR w.length (ps.drop (i + 1))
    · rw [if_pos c3, if_pos ((pl_cons ⟨by omega, by omega⟩).2 c3)]
    · rw [if_neg c3, if_neg (fun e => c3 ((pl_cons ⟨by omega, by omega⟩).1 e))]
theorem flip_sum {t t2 : List Int} {t3 s : List (List Int)} (h : PickR t t2 t3 s) (ps : List Int) : SumR t t2 t3 (flipAll (firstsOf s) ps) :=
  ⟨by rw [flipAll_len]; exact h.1.2.1.1, h.1.2.1.2.1, mark_odd (flipAll_mark ps _ h.2)⟩
theorem pturn_eq (N : Nat) (hN : Fu + 11 ≤ N) (t t2 : List Int) (t3 s : List (List Int)) (ps : List Int) (h1 : t.length ≤ 9223372036854775807) (h2 : t2.length ≤ 9223372036854775807) (h3 : s.length ≤ 100000) (h4 : ps.length ≤ 1000000) : m_pick_Turn N (t, t2, t3, s, ps) = some (turnOf t t2 t3 s ps) := by
  obtain ⟨N, rfl⟩ : ∃ n, N = n + 1 := ⟨N - 1, by omega⟩
  rw [m_pick_Turn_eq, pright_eq N (by omega) t t2 t3 s h1 h2 h3, ob, cdn, turnOf]
  by_cases c : PickR t t2 t3 s
  · obtain ⟨k1, k2, k3, k4⟩ := sumsR_len c.1
    have e := turn_loop N ps t t2 t3 h4 ps.length 0 N (firstsOf s) c.2 (by omega) (by have := Fu_eq; omega)
    rw [List.drop_zero, show ((0 : Nat) : Int) = (0 : Int) from rfl, k1] at e
    have hl := flipAll_len ps (firstsOf s)
    rw [if_pos c, if_pos c, weights_eq N (by omega) t t2 t3 s h1 h2 h3, weights_pos c.1, ob, e, ob]
    by_cases c2 : PlR t2.length ps
    · rw [if_pos c2, if_pos c2]
      simp only
      rw [sbuild_o_eq N (by omega) t t2 t3 _ h1 h2 (by omega), sumOf, if_pos (flip_sum c ps), ob]
    · rw [if_neg c2, if_neg c2]
  · rw [if_neg c, if_neg c]
theorem rturn_eq (N : Nat) (hN : Fu + 11 ≤ N) (t t2 : List Int) (t3 s : List (List Int)) (ps : List Int) (h1 : t.length ≤ 9223372036854775807) (h2 : t2.length ≤ 9223372036854775807) (h3 : s.length ≤ 100000) (h4 : ps.length ≤ 1000000) : m_ref17_Turn N (t, t2, t3, s, ps) = some (turnOf t t2 t3 s ps) := by
  obtain ⟨N, rfl⟩ : ∃ n, N = n + 1 := ⟨N - 1, by omega⟩
  rw [m_ref17_Turn_eq, rpright_eq N (by omega) t t2 t3 s h1 h2 h3, ob, cdn, turnOf]
  by_cases c : PickR t t2 t3 s
  · obtain ⟨k1, k2, k3, k4⟩ := sumsR_len c.1
    have e := rturn_loop N ps t t2 t3 h4 ps.length 0 N (firstsOf s) c.2 (by omega) (by have := Fu_eq; omega)
    rw [List.drop_zero, show ((0 : Nat) : Int) = (0 : Int) from rfl, k1] at e
    have hl := flipAll_len ps (firstsOf s)
    rw [if_pos c, if_pos c, rweights_eq N (by omega) t t2 t3 s h1 h2 h3, weights_pos c.1, ob, e, ob]
    by_cases c2 : PlR t2.length ps
    · rw [if_pos c2, if_pos c2]
      simp only
      rw [rbuilds_o N (by omega) t t2 t3 _ h1 h2 (by omega), sumOf, if_pos (flip_sum c ps), ob]
    · rw [if_neg c2, if_neg c2]
  · rw [if_neg c, if_neg c]
/-! what is marked -/
theorem pickR_of {t t2 : List Int} {t3 : List (List Int)} {w : List Int} (h : SumR t t2 t3 w) (hw : MarkR w) : PickR t t2 t3 (sumsOf t2 w) := ⟨sumsR_of h, by rw [firsts_sums h]; exact hw⟩
theorem turn_of {t t2 : List Int} {t3 : List (List Int)} {w ps : List Int} (h : SumR t t2 t3 w) (hw : MarkR w) (hp : PlR t2.length ps) : turnOf t t2 t3 (sumsOf t2 w) ps = (0, sumsOf t2 (flipAll w ps)) := by
  rw [turnOf, if_pos (pickR_of h hw), if_pos hp, firsts_sums h]
end Go.Proofs.Ytiblkkkgajklfaa
