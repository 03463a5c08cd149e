/- The laws of marks, told plainly. -/
import Derived.Test.YtiblkkkgajklfaaPickE
set_option linter.unusedVariables false
set_option linter.unusedSimpArgs false
namespace Go.Proofs.Ytiblkkkgajklfaa
open Go Go.RowKit

theorem ap_g2 : sumOf [5, 6, 7, 8] [1, 3, 1, 2] [[1], [2, 3, 1], [3], [0, 1]] (markOf [true, false, true, true]) = (0, [[1], [0, 1, 3], [1], [1, 2]]) := by decide +kernel
theorem ap_g3 : firstOf [5, 6, 7, 8] [1, 3, 1, 2] [[1], [2, 3, 1], [3], [0, 1]] [[1], [0, 1, 3], [1], [1, 2]] 1 2 = (0, [2, 3]) := by decide +kernel
theorem ap_g4 : nthOf [5, 6, 7, 8] [1, 3, 1, 2] [[1], [2, 3, 1], [3], [0, 1]] [[1], [0, 1, 3], [1], [1, 2]] 3 1 = (0, 0) := by decide +kernel
theorem ap_g5 : rankOf [5, 6, 7, 8] [1, 3, 1, 2] [[1], [2, 3, 1], [3], [0, 1]] [[1], [0, 1, 3], [1], [1, 2]] 2 1 = (3, 0) := by decide +kernel
theorem ap_g6 : turnOf [5, 6, 7, 8] [1, 3, 1, 2] [[1], [2, 3, 1], [3], [0, 1]] [[1], [0, 1, 3], [1], [1, 2]] [0, 1, 0] = (0, [[1], [1, 2, 4], [1], [1, 2]]) := by decide +kernel
theorem ap_g7 : nthOf [5, 6, 7, 8] [1, 3, 1, 2] [[1], [2, 3, 1], [3], [0, 1]] [[1], [0, 1, 3], [1], [1, 2]] 0 3 = (0, 6) := by decide +kernel
theorem ap_g8 : firstOf [5, 6, 7, 8] [1, 3, 1, 2] [[1], [2, 3, 1], [3], [0, 1]] [[1], [0, 1, 3], [1], [1, 2]] 4 1 = (6, []) := by decide +kernel
theorem ap_g9 : decide (PickR [5, 6, 7, 8] [1, 3, 1, 2] [[1], [2, 3, 1], [3], [0, 1]] [[1], [1, 2, 4], [1], [1, 2]]) = true := by decide +kernel
theorem palive_eq (N : Nat) (hN : Fu + 15 ≤ N) : m_law17_alive N () = some true := by
  obtain ⟨N, rfl⟩ : ∃ n, N = n + 1 := ⟨N - 1, by omega⟩
  have i1 := ints_self N (by omega) [2, 3] (by simp)
  have i2 := ints_self N (by omega) [1, 2, 4] (by simp)
  rw [m_law17_alive_eq, alive_k1 N (by omega), ob]
  simp only
  rw [mark_eq N (by omega) _ _ _ _ (by simp) (by simp) (by simp), ap_g2, ob]
  simp only
  rw [pfirst_eq N (by omega) _ _ _ _ _ _ (by simp) (by simp) (by simp), ap_g3, ob, pnth_eq N (by omega) _ _ _ _ _ _ (by simp) (by simp) (by simp) (by simp), ap_g4, ob, prank_eq N (by omega) _ _ _ _ _ _ (by simp) (by simp) (by simp), ap_g5, ob, pturn_eq N (by omega) _ _ _ _ _ (by simp) (by simp) (by simp) (by simp), ap_g6, ob, pnth_eq N (by omega) _ _ _ _ _ _ (by simp) (by simp) (by simp) (by simp), ap_g7, ob, pfirst_eq N (by omega) _ _ _ _ _ _ (by simp) (by simp) (by simp), ap_g8, ob]
  simp only [nthI, ob]
  have k := pright_eq N (by omega) [5, 6, 7, 8] [1, 3, 1, 2] [[1], [2, 3, 1], [3], [0, 1]] [[1], [1, 2, 4], [1], [1, 2]] (by simp) (by simp) (by simp)
  rw [ap_g9] at k
  simp [ob, i1, i2, k]
theorem pgreat_ex (N : Nat) (hN : Fu + 2 ≤ N) (t t2 : List Int) (t3 s : List (List Int)) (h3 : t3.length ≤ 9223372036854775807) (hm : s.length ≤ 9223372036854775807) : ∃ b, m_law17_great N (t, t2, t3, s) = some b ∧ (b = false → s.length ≤ 200) := by
  obtain ⟨N, rfl⟩ : ∃ n, N = n + 1 := ⟨N - 1, by omega⟩
  obtain ⟨a, ha⟩ := great_ex N (by omega) 200 t t2 t3 h3
  obtain ⟨b, hb, h4⟩ := sgreat_ex N (by omega) s hm
  rw [m_law17_great_eq, ha, ob]
  cases a with
  | true => exact ⟨_, rfl, fun e => by cases e⟩
  | false =>
    rw [cond_false, hb]
    exact ⟨_, rfl, h4⟩
theorem firstOf_len (t t2 : List Int) (t3 s : List (List Int)) (a k : Int) : (firstOf t t2 t3 s a k).2.length ≤ 1000 := by
  unfold firstOf
  split
  · rename_i h
    have k := sumsR_len h.1
    split
    · have := pl_le (w := firstsOf s) t2.length a.toNat
      simp only [List.length_take]; omega
    · simp
  · simp
theorem pickAnswers_eq (N : Nat) (hN : Fu + 16 ≤ N) (t t2 : List Int) (t3 s : List (List Int)) (a b : Int) (h1 : t.length ≤ 9223372036854775807) (h2 : t2.length ≤ 9223372036854775807) (h3 : t3.length ≤ 9223372036854775807) (h4 : s.length ≤ 9223372036854775807) (hb : b ≤ 9223372036854775807) : m_law17_PickAnswers N (t, t2, t3, s, a, b) = some true := by
  obtain ⟨N, rfl⟩ : ∃ n, N = n + 1 := ⟨N - 1, by omega⟩
  obtain ⟨g, hg, hs⟩ := pgreat_ex N (by omega) t t2 t3 s h3 h4
  rw [m_law17_PickAnswers_eq, palive_eq N (by omega), ob, Bool.not_true, cond_false, hg, ob]
  cases g with
  | true => rfl
  | false =>
    have hs := hs rfl
    have hl := firstOf_len t t2 t3 s a b
    rw [cond_false, pfirst_eq N (by omega) t t2 t3 s a b h1 h2 (by omega), ob, rfirst_eq N (by omega) t t2 t3 s a b h1 h2 (by omega), ob, pnth_eq N (by omega) t t2 t3 s a b h1 h2 (by omega) hb, ob, rnth_eq N (by omega) t t2 t3 s a b h1 h2 (by omega), ob, prank_eq N (by omega) t t2 t3 s a b h1 h2 (by omega), ob, rrank_eq N (by omega) t t2 t3 s a b h1 h2 (by omega), ob, ints_self' N (by omega) _ (by omega), ob, pright_eq N (by omega) t t2 t3 s h1 h2 (by omega), rpright_eq N (by omega) t t2 t3 s h1 h2 (by omega)]
    simp [ob]
theorem sumsR_nil (t t2 : List Int) (t3 : List (List Int)) : ¬ SumsR t t2 t3 [] := fun h => by
  have a := (sumsR_len h).1
  have b := (sumsR_len h).2.2.1
  simp [firstsOf] at a
  omega
theorem lists_same' (N : Nat) (hN : Fu + 2 ≤ N) {t t2 : List Int} {t3 : List (List Int)} {w : List Int} (h : SumR t t2 t3 w) : m_ref14_Lists N (sumsOf t2 w, sumsOf t2 w) = some true := by
  have := sumOf_lens t t2 t3 w
  rw [sumOf, if_pos h] at this
  exact lists_same N hN _ this
theorem pickTurns_eq (N : Nat) (hN : Fu + 16 ≤ N) (t t2 : List Int) (t3 : List (List Int)) (l : List Bool) (ps : List Int) (h1 : t.length ≤ 9223372036854775807) (h2 : t2.length ≤ 9223372036854775807) (h3 : t3.length ≤ 9223372036854775807) : m_law17_PickTurns N (t, t2, t3, l, ps) = some true := by
  obtain ⟨N, rfl⟩ : ∃ n, N = n + 1 := ⟨N - 1, by omega⟩
  obtain ⟨g, hg⟩ := great_ex N (by omega) 200 t t2 t3 h3
  rw [m_law17_PickTurns_eq, palive_eq N (by omega), ob, Bool.not_true, cond_false, hg, ob]
  cases g with
  | true => rfl
  | false =>
    rw [cond_false, cd]
    by_cases k1 : (200 : Int) < ((l.length : Nat) : Int)
    · rw [if_pos k1]
    rw [if_neg k1, cd]
    by_cases k2 : (50 : Int) < ((ps.length : Nat) : Int)
    · rw [if_pos k2]
    have hsl := sumOf_lens t t2 t3 (markOf l)
    rw [if_neg k2, mark_eq N (by omega) t t2 t3 l h1 h2 (by omega), ob, rmark_eq N (by omega) t t2 t3 l h1 h2 (by omega), ob, pturn_eq N (by omega) t t2 t3 _ ps h1 h2 (by omega) (by omega), ob, rturn_eq N (by omega) t t2 t3 _ ps h1 h2 (by omega) (by omega), ob, lists_same N (by omega) _ hsl, ob]
    simp only [Bool.not_true, cond_false, decide_true]
    by_cases c : ¬ SumR t t2 t3 (markOf l)
    · rw [sumOf, if_neg c]
      simp only
      rw [turnOf, if_neg (fun h => sumsR_nil t t2 t3 h.1)]
      simp only
      rw [lists_same N (by omega) _ ⟨by simp, fun x hx => by cases hx⟩, ob]; rfl
    have c := Decidable.not_not.1 c
    rw [sumOf, if_pos c]
    simp only
    by_cases c2 : PlR t2.length ps
    · have hf : SumR t t2 t3 (flipAll (markOf l) ps) := by
        have := flip_sum (pickR_of c (markOf_r l)) ps
        rwa [firsts_sums c] at this
      have hls := sumOf_lens t t2 t3 (flipAll (markOf l) ps)
      rw [sumOf, if_pos hf] at hls
      rw [turn_of c (markOf_r l) c2]
      simp only
      rw [lists_same' N (by omega) hf, ob]
      simp only [Bool.not_true, cond_false, decide_true]
      rw [pturn_eq N (by omega) t t2 t3 _ ps h1 h2 (by have := hls.1; simp only at this; omega) (by omega), turn_of hf (flipAll_mark ps _ (markOf_r l)) c2, flipAll_twice, ob]
      simp only [decide_true, cond_true]
      rw [lists_same' N (by omega) c, ob]
    · rw [turnOf, if_pos (pickR_of c (markOf_r l)), if_neg c2]
      simp only
      rw [lists_same N (by omega) _ ⟨by simp, fun x hx => by cases hx⟩, ob]; rfl
theorem dOf_of {n a j : Nat} (ha : a < n) (hj : j < n) : dOf n (a : Int) (((a + j) % n : Nat) : Int) = j := by
  rw [dOf_nat ha (Nat.mod_lt _ (by omega))]
  by_cases h : a + j < n
  · rw [Nat.mod_eq_of_lt h, if_pos (by omega)]; omega
  · rw [Nat.mod_eq_sub_mod (by omega), Nat.mod_eq_of_lt (by omega), if_neg (by omega)]; omega
theorem mark_get {l : List Bool} {p : Nat} (h : hAt (markOf l) p = 1) : l[p]? = some true := by
  by_cases hp : p < l.length
  · obtain ⟨b, hb⟩ := get_at (xs := l) (i := p) hp
    have hv : hAt (markOf l) p = cond b 1 0 := hAt_of (by rw [markOf, List.getElem?_map, hb]; rfl)
    cases b with
    | true => exact hb
    | false => rw [hv] at h; cases h
  · have : hAt (markOf l) p = 0 := by simp [hAt, List.getD_eq_getElem?_getD, List.getElem?_eq_none (show (markOf l).length ≤ p by rw [markOf_len]; omega)]
    omega
theorem rank_of {t t2 : List Int} {t3 : List (List Int)} {w : List Int} (h : SumR t t2 t3 w) (hw : MarkR w) {a b : Nat} (ha : a < w.length) (hb : b < w.length) : rankOf t t2 t3 (sumsOf t2 w) (a : Int) (b : Int) = (segS w a (dOf w.length (a : Int) (b : Int)), 0) := by
  rw [rankOf, if_pos (pickR_of h hw), between_of h ha hb]
theorem turn1 (N : Nat) (hN : Fu + 13 ≤ N) (t t2 : List Int) (t3 : List (List Int)) (l : List Bool) (h1 : t.length ≤ 9223372036854775807) (h2 : t2.length ≤ 9223372036854775807) (h : SumR t t2 t3 (markOf l)) (a : Nat) (ha : a < l.length) : ∀ (k i m : Nat), i + k = (pl (markOf l) a l.length).length → k < m →
    l_law17_PickInTurn_1 N m (l, ((t.length : Nat) : Int), (a : Int), (i : Int), t, t2, t3, sumsOf t2 (markOf l), pl (markOf l) a l.length) = some (.inl (l, ((t.length : Nat) : Int), (a : Int), t, t2, t3, sumsOf t2 (markOf l), pl (markOf l) a l.length))
  | k, i, 0, e1, e2 => by omega
  | 0, i, m + 1, e1, e2 => by
    rw [l_law17_PickInTurn_1_s, cd, if_neg (by omega)]
  | k + 1, i, m + 1, e1, e2 => by
    have hml := markOf_len l
    have hwl := h.1
    obtain ⟨l1, l2, l3⟩ := towerR_len h.2.1
    have hsl := sumsOf_len t2 (markOf l)
    obtain ⟨j, j1, j2, j3, j4⟩ := pl_at (markOf_r l) l.length a i (by omega)
    have hmod := Nat.mod_lt (a + j) (show 0 < (markOf l).length by omega)
    have hle := pl_le (w := markOf l) l.length a
    have en : nthOf t t2 t3 (sumsOf t2 (markOf l)) (a : Int) (i : Int) = ((((a + j) % (markOf l).length : Nat) : Int), 0) := by
      rw [nthOf, if_pos (pickR_of h (markOf_r l)), firsts_sums h, if_pos (by omega), Int.toNat_natCast, Int.toNat_natCast, show t2.length = l.length by omega, if_pos (by omega), List.getD_eq_getElem?_getD, j2]; rfl
    have er := rank_of h (markOf_r l) (a := a) (b := (a + j) % (markOf l).length) (by omega) hmod
    rw [dOf_of (by omega) (by omega), j4] at er
    rw [l_law17_PickInTurn_1_s, cd, if_pos (by omega), pnth_eq N (by omega) t t2 t3 _ _ _ h1 h2 (by omega) (by omega), en, ob, nth_of j2, ob, ob, prank_eq N (by omega) t t2 t3 _ _ _ h1 h2 (by omega), er, ob]
    simp only [decide_true, Bool.not_true, cond_false]
    rw [ob, ob]
    simp only [decide_true, Bool.not_true, cond_false]
    rw [cd, if_neg (by omega), cd, if_neg (by omega), nth_of (mark_get j3), ob]
    simp only [Bool.not_true, cond_false]
    rw [w64n (by omega)]
    exact turn1 N hN t t2 t3 l h1 h2 h a ha k (i + 1) m (by omega) (by omega)
theorem turn2 (N : Nat) (l : List Bool) (e : Int) (all : List Int) (hm : l.length ≤ 1000) : ∀ (k i m : Nat), i + k = l.length → k < m →
    l_law17_PickInTurn_2 N m (l, ((l.length : Nat) : Int), e, pre (markOf l) i, (i : Int), all) = some (e, pre (markOf l) l.length, all)
  | k, i, 0, e1, e2 => by omega
  | 0, i, m + 1, e1, e2 => by
    rw [l_law17_PickInTurn_2_s, cd, if_neg (by omega), show i = l.length by omega]
  | k + 1, i, m + 1, e1, e2 => by
    obtain ⟨b, hb⟩ := get_at (xs := l) (i := i) (by omega)
    have hv : hAt (markOf l) i = cond b 1 0 := hAt_of (by rw [markOf, List.getElem?_map, hb]; rfl)
    have p1 := pre_le (mark_odd (markOf_r l)) i
    have ih := turn2 N l e all hm k (i + 1) m (by omega) (by omega)
    rw [pre, hv] at ih
    rw [l_law17_PickInTurn_2_s, cd, if_pos (by omega), nth_of hb, ob, w64n (by omega)]
    cases b with
    | true => rw [cond_true, w64 (by omega) (by omega)]; exact ih
    | false => rw [cond_false]; rw [cond_false, Int.add_zero] at ih; exact ih
theorem pickInTurn_eq (N : Nat) (hN : Fu + 16 ≤ N) (t t2 : List Int) (t3 : List (List Int)) (l : List Bool) (p q : Int) (h1 : t.length ≤ 9223372036854775807) (h2 : t2.length ≤ 9223372036854775807) (h3 : t3.length ≤ 9223372036854775807) (hp : 0 ≤ p ∧ p ≤ 255) (hq : 0 ≤ q ∧ q ≤ 255) : m_law17_PickInTurn N (t, t2, t3, l, p, q) = some true := by
  obtain ⟨N, rfl⟩ : ∃ n, N = n + 1 := ⟨N - 1, by omega⟩
  obtain ⟨g, hg⟩ := great_ex N (by omega) 200 t t2 t3 h3
  rw [m_law17_PickInTurn_eq, palive_eq N (by omega), ob, Bool.not_true, cond_false, hg, ob]
  cases g with
  | true => rfl
  | false =>
    rw [cond_false, cd]
    by_cases k1 : (200 : Int) < ((l.length : Nat) : Int)
    · rw [if_pos k1]
    rw [if_neg k1, mark_eq N (by omega) t t2 t3 l h1 h2 (by omega), ob]
    by_cases c : ¬ SumR t t2 t3 (markOf l)
    · rw [sumOf, if_neg c]; rfl
    have c := Decidable.not_not.1 c
    have hml := markOf_len l
    have hwl := c.1
    obtain ⟨l1, l2, l3⟩ := towerR_len c.2.1
    have hsl := sumsOf_len t2 (markOf l)
    obtain ⟨p, rfl⟩ : ∃ n : Nat, p = (n : Int) := ⟨p.toNat, by omega⟩
    obtain ⟨q, rfl⟩ : ∃ n : Nat, q = (n : Int) := ⟨q.toNat, by omega⟩
    have ha := Nat.mod_lt p (show 0 < t.length by omega)
    have hpk := pickR_of c (markOf_r l)
    have hle := pl_le (w := markOf l) l.length (p % t.length)
    have ef : ∀ k : Int, firstOf t t2 t3 (sumsOf t2 (markOf l)) ((p % t.length : Nat) : Int) k = (0, (pl (markOf l) (p % t.length) l.length).take k.toNat) := fun k => by
      rw [firstOf, if_pos hpk, if_pos (by omega), firsts_sums c, Int.toNat_natCast, show t2.length = l.length by omega]
    have hall : (pl (markOf l) (p % t.length) l.length).take (((t.length : Nat) : Int)).toNat = pl (markOf l) (p % t.length) l.length := List.take_of_length_le (by omega)
    have hnth : nthOf t t2 t3 (sumsOf t2 (markOf l)) ((p % t.length : Nat) : Int) (((pl (markOf l) (p % t.length) l.length).length : Nat) : Int) = (0, 6) := by
      rw [nthOf, if_pos hpk, firsts_sums c, if_pos (by omega), Int.toNat_natCast, show t2.length = l.length by omega, if_neg (by omega)]
    have e1 := turn1 N (by omega) t t2 t3 l h1 h2 c (p % t.length) (by omega) (pl (markOf l) (p % t.length) l.length).length 0 N (by omega) (by have := Fu_eq; omega)
    have e2 := turn2 N l 6 (pl (markOf l) (p % t.length) l.length) (by omega) l.length 0 N (by omega) (by have := Fu_eq; omega)
    rw [show ((0 : Nat) : Int) = (0 : Int) from rfl] at e1 e2
    rw [show pre (markOf l) 0 = 0 from rfl] at e2
    have hcount : (((pl (markOf l) (p % t.length) l.length).length : Nat) : Int) = pre (markOf l) l.length := by
      rw [pl_len (markOf_r l), ← hml, seg_all (by omega)]
    rw [sumOf, if_pos c]
    simp only [decide_true, Bool.not_true, cond_false]
    rw [w64 (x := (p : Int)) (by omega) (by omega), w64 (x := (q : Int)) (by omega) (by omega), rem_of (by omega), tmod_nat, ob, pfirst_eq N (by omega) t t2 t3 _ _ _ h1 h2 (by omega), ef, ob, pfirst_eq N (by omega) t t2 t3 _ _ _ h1 h2 (by omega), ef, hall, ob]
    simp only [decide_true, Bool.not_true, cond_false]
    rw [Int.toNat_natCast, cdn, if_pos (by simp only [List.length_take]; split <;> omega), sub_take (by omega) (by simp only [List.length_take]; omega), ob, Int.toNat_natCast, show List.take (List.take q (pl (markOf l) (p % t.length) l.length)).length (pl (markOf l) (p % t.length) l.length) = List.take q (pl (markOf l) (p % t.length) l.length) by
      rw [List.length_take]
      by_cases hqq : q ≤ (pl (markOf l) (p % t.length) l.length).length
      · rw [Nat.min_eq_left hqq]
      · rw [Nat.min_eq_right (by omega), List.take_of_length_le (by omega), List.take_of_length_le (by omega)], ints_self' N (by omega) _ (by simp only [List.length_take]; omega), ob]
    simp only [Bool.not_true, cond_false]
    rw [e1, ob]
    simp only
    rw [pnth_eq N (by omega) t t2 t3 _ _ _ h1 h2 (by omega) (by omega), hnth, ob]
    simp only
    rw [show ((t.length : Nat) : Int) = ((l.length : Nat) : Int) by omega, e2, ob]
    simp only [decide_true, cond_true]
    rw [hcount, decide_eq_true rfl]
theorem markOf_at {l : List Bool} {j : Nat} {b : Bool} (h : l[j]? = some b) : hAt (markOf l) j = cond b 1 0 := hAt_of (by rw [markOf, List.getElem?_map, h]; rfl)
theorem pickAll_eq (N : Nat) (hN : Fu + 16 ≤ N) (t t2 : List Int) (t3 : List (List Int)) (l : List Bool) (p q : Int) (h1 : t.length ≤ 9223372036854775807) (h2 : t2.length ≤ 9223372036854775807) (h3 : t3.length ≤ 9223372036854775807) (hp : 0 ≤ p ∧ p ≤ 255) (hq : 0 ≤ q ∧ q ≤ 255) : m_law17_PickAll N (t, t2, t3, l, p, q) = some true := by
  obtain ⟨N, rfl⟩ : ∃ n, N = n + 2 := ⟨N - 2, by omega⟩
  obtain ⟨g, hg⟩ := great_ex (N + 1) (by omega) 200 t t2 t3 h3
  rw [m_law17_PickAll_eq, palive_eq (N + 1) (by omega), ob, Bool.not_true, cond_false, hg, ob]
  cases g with
  | true => rfl
  | false =>
    rw [cond_false, cd]
    by_cases k1 : (200 : Int) < ((l.length : Nat) : Int)
    · rw [if_pos k1]
    rw [if_neg k1, mark_eq (N + 1) (by omega) t t2 t3 l h1 h2 (by omega), ob]
    by_cases c : ¬ SumR t t2 t3 (markOf l)
    · rw [sumOf, if_neg c]
      simp only
      rw [pright_eq (N + 1) (by omega) t t2 t3 [] h1 h2 (by simp), decide_eq_false (show ¬ PickR t t2 t3 [] from fun h => sumsR_nil t t2 t3 h.1)]; rfl
    have c := Decidable.not_not.1 c
    have hml := markOf_len l
    have hwl := c.1
    obtain ⟨l1, l2, l3⟩ := towerR_len c.2.1
    have hsl := sumsOf_len t2 (markOf l)
    obtain ⟨p, rfl⟩ : ∃ n : Nat, p = (n : Int) := ⟨p.toNat, by omega⟩
    obtain ⟨q, rfl⟩ : ∃ n : Nat, q = (n : Int) := ⟨q.toNat, by omega⟩
    have ha := Nat.mod_lt p (show 0 < (markOf l).length by omega)
    have hb := Nat.mod_lt q (show 0 < (markOf l).length by omega)
    have r1 := rank_of c (markOf_r l) ha hb
    have r2 := rank_of c (markOf_r l) hb ha
    have hplr : PlR t2.length [((p % (markOf l).length : Nat) : Int)] := fun x hx => by
      obtain rfl := List.mem_singleton.1 hx
      omega
    have et := turn_of c (markOf_r l) hplr
    have hfl : flipAll (markOf l) [((p % (markOf l).length : Nat) : Int)] = flip1 (markOf l) (p % (markOf l).length) := by
      rw [flipAll, flipAll, Int.toNat_natCast]
    rw [hfl] at et
    have hf : SumR t t2 t3 (flip1 (markOf l) (p % (markOf l).length)) := by
      have := flip_sum (pickR_of c (markOf_r l)) [((p % (markOf l).length : Nat) : Int)]
      rwa [firsts_sums c, hfl] at this
    have hfm := flip1_mark (markOf_r l) (p % (markOf l).length)
    have hpre := pre_flip ha (markOf l).length
    rw [if_pos ha] at hpre
    have hfsl := sumsOf_len t2 (flip1 (markOf l) (p % (markOf l).length))
    have kr := seg_round ha hb
    have z1 : p % (markOf l).length = q % (markOf l).length → segS (markOf l) (p % (markOf l).length) (dOf (markOf l).length ((p % (markOf l).length : Nat) : Int) ((q % (markOf l).length : Nat) : Int)) = 0 := fun h => by rw [← h, dOf_self ha]; rfl
    have z2 : p % (markOf l).length = q % (markOf l).length → segS (markOf l) (q % (markOf l).length) (dOf (markOf l).length ((q % (markOf l).length : Nat) : Int) ((p % (markOf l).length : Nat) : Int)) = 0 := fun h => by rw [← h, dOf_self ha]; rfl
    have s6 := pre_le c.2.2 (markOf l).length
    have hav := mark_at (markOf_r l) (p % (markOf l).length)
    obtain ⟨bv, hbv⟩ := get_at (xs := l) (i := p % (markOf l).length) (by omega)
    have hv := markOf_at hbv
    have tot2 : totalOf t t2 t3 (sumsOf t2 (flip1 (markOf l) (p % (markOf l).length))) = (pre (markOf l) (markOf l).length + (1 - 2 * hAt (markOf l) (p % (markOf l).length)), 0) := by
      rw [total_of hf, flip1_len, hpre]
    rw [sumOf, if_pos c]
    simp only [decide_true, Bool.not_true, cond_false]
    rw [← hwl, w64 (x := (p : Int)) (by omega) (by omega), w64 (x := (q : Int)) (by omega) (by omega), rem_of (by omega), tmod_nat, ob, rem_of (by omega), tmod_nat, ob, prank_eq (N + 1) (by omega) t t2 t3 _ _ _ h1 h2 (by omega), r1, ob, prank_eq (N + 1) (by omega) t t2 t3 _ _ _ h1 h2 (by omega), r2, ob, pturn_eq (N + 1) (by omega) t t2 t3 _ _ h1 h2 (by omega) (by simp), et, ob, rtotal_eq (N + 1) (by omega) t t2 t3 _ h1 h2 (by omega), total_of c, ob, rtotal_eq (N + 1) (by omega) t t2 t3 _ h1 h2 (by simp only; omega), tot2, ob]
    simp only [decide_true, Bool.not_true, cond_false]
    have hpr : m_pick_Right (N + 1) (t, t2, t3, sumsOf t2 (flip1 (markOf l) (p % (markOf l).length))) = some true := by
      rw [pright_eq (N + 1) (by omega) t t2 t3 _ h1 h2 (by omega), decide_eq_true (pickR_of hf hfm)]
    generalize segS (markOf l) (p % (markOf l).length) (dOf (markOf l).length ((p % (markOf l).length : Nat) : Int) ((q % (markOf l).length : Nat) : Int)) = X at *
    generalize segS (markOf l) (q % (markOf l).length) (dOf (markOf l).length ((q % (markOf l).length : Nat) : Int) ((p % (markOf l).length : Nat) : Int)) = Y at *
    have hstep : ∃ st : Int, l_law17_PickAll_1 (N + 1) (N + 1) (l, ((p % (markOf l).length : Nat) : Int), ((q % (markOf l).length : Nat) : Int), X, Y, pre (markOf l) (markOf l).length, pre (markOf l) (markOf l).length + (1 - 2 * hAt (markOf l) (p % (markOf l).length)), 1, t, t2, t3, sumsOf t2 (flip1 (markOf l) (p % (markOf l).length))) = some (((p % (markOf l).length : Nat) : Int), ((q % (markOf l).length : Nat) : Int), X, Y, pre (markOf l) (markOf l).length, pre (markOf l) (markOf l).length + (1 - 2 * hAt (markOf l) (p % (markOf l).length)), st, t, t2, t3, sumsOf t2 (flip1 (markOf l) (p % (markOf l).length))) ∧ st = 1 - 2 * hAt (markOf l) (p % (markOf l).length) := by
      rw [l_law17_PickAll_1_s, nth_of hbv, ob]
      cases bv with
      | true => exact ⟨_, rfl, by rw [hv]; rfl⟩
      | false => exact ⟨_, rfl, by rw [hv]; rfl⟩
    obtain ⟨st, hst, hst2⟩ := hstep
    rw [hst, ob]
    simp only
    rw [cd]
    have w1 : IntKind.wrap .i64 (pre (markOf l) (markOf l).length + st) = pre (markOf l) (markOf l).length + (1 - 2 * hAt (markOf l) (p % (markOf l).length)) := by
      rw [hst2, w64 (by omega) (by omega)]
    rw [w1]
    by_cases h : p % (markOf l).length = q % (markOf l).length
    · rw [if_pos (by omega), z1 h, z2 h, hpr]
      simp [ob]
    · have kk := kr h
      rw [if_neg (by omega), cdn, if_neg (by omega), kk, w64 (x := pre (markOf l) (markOf l).length) (by omega) (by omega), hpr]
      simp [ob]
end Go.Proofs.Ytiblkkkgajklfaa
