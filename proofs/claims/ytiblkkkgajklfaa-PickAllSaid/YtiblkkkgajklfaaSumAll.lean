/- Several texts as one (printed by wip/merge.py): SumA, SumB, SumC, SumD, SumE, SumF, SumG, SumHa, SumH, SumI, SumJ. -/
import Derived.Test.YtiblkkkgajklfaaTowHead
set_option linter.unusedVariables false
set_option linter.unusedSimpArgs false
/-! Sums in a round, told plainly: what stands from a place on. -/
namespace Go.Proofs.Ytiblkkkgajklfaa
open Go Go.RowKit

/-- what stands from place i on, of d places, going round -/
def segS (w : List Int) (i : Nat) : Nat → Int
  | 0 => 0
  | d + 1 => segS w i d + hAt w ((i + d) % w.length)
/-- what stands ahead of a place -/
def pre (w : List Int) : Nat → Int
  | 0 => 0
  | k + 1 => pre w k + hAt w k
def OddR (w : List Int) : Prop := ∀ x ∈ w, -1073741824 ≤ x ∧ x ≤ 1073741824
instance (w : List Int) : Decidable (OddR w) := by unfold OddR; exact inferInstance
def rowS (hs w : List Int) (i : Nat) : List Int := (List.range (hAt hs i).toNat).map fun h => segS w i (dist hs i h)
def sumsOf (hs w : List Int) : List (List Int) := (List.range hs.length).map (rowS hs w)
def SumR (t t2 : List Int) (t3 : List (List Int)) (w : List Int) : Prop := w.length = t.length ∧ TowerR t t2 t3 ∧ OddR w
instance (t t2 : List Int) (t3 : List (List Int)) (w : List Int) : Decidable (SumR t t2 t3 w) := by unfold SumR; exact inferInstance
def sumOf (t t2 : List Int) (t3 : List (List Int)) (w : List Int) : Int × List (List Int) := if SumR t t2 t3 w then (0, sumsOf t2 w) else (1, [])

theorem odd_at {w : List Int} (hw : OddR w) (j : Nat) : -1073741824 ≤ hAt w j ∧ hAt w j ≤ 1073741824 := by
  by_cases h : j < w.length
  · exact hw _ (List.mem_of_getElem? (hAt_get h))
  · have : hAt w j = 0 := by simp [hAt, List.getElem?_eq_none (show w.length ≤ j by omega)]
    omega
theorem pre_le {w : List Int} (hw : OddR w) : ∀ k : Nat, -(1073741824 * (k : Int)) ≤ pre w k ∧ pre w k ≤ 1073741824 * (k : Int)
  | 0 => by simp [pre]
  | k + 1 => by
    have := pre_le hw k
    have h2 := odd_at hw k
    rw [pre]; omega
theorem seg_le {w : List Int} (hw : OddR w) (i : Nat) : ∀ d : Nat, -(1073741824 * (d : Int)) ≤ segS w i d ∧ segS w i d ≤ 1073741824 * (d : Int)
  | 0 => by simp [segS]
  | d + 1 => by
    have := seg_le hw i d
    have h2 := odd_at hw ((i + d) % w.length)
    rw [segS]; omega
theorem seg_pre {w : List Int} {i : Nat} : ∀ d, i + d ≤ w.length → segS w i d = pre w (i + d) - pre w i
  | 0, _ => by simp [segS]
  | d + 1, h => by
    rw [segS, seg_pre d (by omega), Nat.mod_eq_of_lt (by omega), ← Nat.add_assoc, pre]; omega
theorem seg_wrap {w : List Int} {i : Nat} (hi : i < w.length) : ∀ d, d ≤ w.length → w.length ≤ i + d → segS w i d = pre w w.length - pre w i + pre w (i + d - w.length)
  | 0, _, h => by omega
  | d + 1, h1, h2 => by
    rw [segS]
    by_cases h : w.length ≤ i + d
    · have e : (i + d) % w.length = i + d - w.length := by rw [Nat.mod_eq_sub_mod h, Nat.mod_eq_of_lt (by omega)]
      rw [seg_wrap hi d (by omega) h, e, show i + (d + 1) - w.length = (i + d - w.length) + 1 by omega, pre]; omega
    · have e : i + (d + 1) = w.length := by omega
      rw [seg_pre d (by omega), Nat.mod_eq_of_lt (by omega), show i + (d + 1) - w.length = 0 by omega, ← e, ← Nat.add_assoc]
      simp only [pre]; omega
/-- over a place between -/
theorem seg_add (w : List Int) (i a : Nat) : ∀ b, segS w i (a + b) = segS w i a + segS w ((i + a) % w.length) b
  | 0 => by simp [segS]
  | b + 1 => by
    rw [← Nat.add_assoc, segS, segS, seg_add w i a b, Nat.mod_add_mod, Nat.add_assoc i a b]; omega
/-- all round it is all -/
theorem seg_all {w : List Int} {i : Nat} (hi : i < w.length) : segS w i w.length = pre w w.length := by
  rw [seg_wrap hi _ (Nat.le_refl _) (by omega), show i + w.length - w.length = i by omega]; omega
theorem link_seg {hs w : List Int} {i h : Nat} (hl : w.length = hs.length) (hi : i < hs.length) (hh : (h : Int) < hAt hs i) :
    pre w ((i + dist hs i h) % hs.length) - pre w i + (if (i + dist hs i h) % hs.length ≤ i then pre w hs.length else 0) = segS w i (dist hs i h) := by
  obtain ⟨_, d1, d2, _⟩ := dist_ok hi hh
  by_cases h1 : i + dist hs i h < hs.length
  · rw [Nat.mod_eq_of_lt h1, if_neg (by omega), seg_pre _ (by omega)]; omega
  · have e : (i + dist hs i h) % hs.length = i + dist hs i h - hs.length := by rw [Nat.mod_eq_sub_mod (by omega), Nat.mod_eq_of_lt (by omega)]
    rw [e, if_pos (by omega), seg_wrap (by omega) _ (by omega) (by omega), hl]; omega
theorem rowS_len (hs w : List Int) (i : Nat) : (rowS hs w i).length = (hAt hs i).toNat := by simp [rowS]
theorem sumsOf_at {hs w : List Int} {i : Nat} (hi : i < hs.length) : (sumsOf hs w)[i]? = some (rowS hs w i) := map_get _ _ _ hi
theorem rowS_at {hs w : List Int} {i h : Nat} (hh : (h : Int) < hAt hs i) : (rowS hs w i)[h]? = some (segS w i (dist hs i h)) := map_get _ _ _ (by omega)
/-- at level 0 it is the weight -/
theorem dist_zero {hs : List Int} (hh : HighR hs) {i : Nat} (hi : i < hs.length) : dist hs i 0 = 1 := by
  have hn : 0 < hs.length := by omega
  obtain ⟨_, d1, d2, d3⟩ := dist_ok (h := 0) hi (by have := high_at hh hi; omega)
  rcases Nat.lt_or_ge 1 (dist hs i 0) with h | h
  · have := d3 1 (by omega) h
    have := high_at hh (Nat.mod_lt (i + 1) hn)
    omega
  · omega
theorem rowS_first {hs w : List Int} (hh : HighR hs) (hl : w.length = hs.length) {i : Nat} (hi : i < hs.length) : (rowS hs w i)[0]? = some (hAt w i) := by
  rw [rowS_at (by have := high_at hh hi; omega), dist_zero hh hi]
  simp only [segS, Nat.add_zero, Int.zero_add]
  rw [Nat.mod_eq_of_lt (by omega)]
/-! weights that may not be -/
theorem sodd_eq (N : Nat) (hN : Fu ≤ N) (x : Int) : m_sum_odd N x = some (decide (¬ (-1073741824 ≤ x ∧ x ≤ 1073741824))) := by
  obtain ⟨N, rfl⟩ : ∃ n, N = n + 1 := ⟨N - 1, by have := Fu_eq; omega⟩
  rw [m_sum_odd_eq, cd]
  by_cases h1 : x < -1073741824
  · rw [if_pos h1]; simp; omega
  · rw [if_neg h1]
    by_cases h2 : 1073741824 < x
    · simp [h2]
    · have : -1073741824 ≤ x ∧ x ≤ 1073741824 := by omega
      simp [h2, this]
theorem soddf_loop (N : Nat) (hN : Fu ≤ N) (l : List Int) (hm : l.length ≤ 9223372036854775807) : ∀ (k i m : Nat), i + k = l.length → k < m →
    ∃ r : Int, l_slices_IndexFunc_Lint_int_sum_odd_1 N m (l, ((l.length : Nat) : Int), (i : Int)) = some (if OddR (l.drop i) then .inl () else .inr r) ∧ 0 ≤ r
  | k, i, 0, h1, h2 => by omega
  | 0, i, m + 1, h1, h2 => by
    refine ⟨0, ?_, by omega⟩
    rw [l_slices_IndexFunc_Lint_int_sum_odd_1_s, cd, if_neg (by omega), List.drop_eq_nil_of_le (by omega), if_pos (by intro t h; cases h)]
  | k + 1, i, m + 1, h1, h2 => by
    obtain ⟨x, hx⟩ := get_at (xs := l) (i := i) (by omega)
    rw [l_slices_IndexFunc_Lint_int_sum_odd_1_s, cd, if_pos (by omega), nth_of hx, ob, sodd_eq N hN, ob, cd, drop_at hx]
    by_cases c1 : ¬ (-1073741824 ≤ x ∧ x ≤ 1073741824)
    · rw [if_pos c1]
      exact ⟨i, by rw [if_neg (fun e => c1 (e x (by simp)))], by omega⟩
    · rw [if_neg c1]
      have c1 := Decidable.not_not.1 c1
      obtain ⟨r, h3, h4⟩ := soddf_loop N hN l hm k (i + 1) m (by omega) (by omega)
      refine ⟨r, ?_, h4⟩
      rw [w64n (by omega), h3]
      have : OddR (x :: l.drop (i + 1)) ↔ OddR (l.drop (i + 1)) := ⟨fun e t ht => e t (by simp [ht]), fun e t ht => by
        rcases List.mem_cons.1 ht with rfl | ht
        · exact c1
        · exact e t ht⟩
      by_cases h5 : OddR (l.drop (i + 1))
      · rw [if_pos h5, if_pos (this.2 h5)]
      · rw [if_neg h5, if_neg (fun e => h5 (this.1 e))]
theorem soddf_eq (N : Nat) (hN : Fu + 2 ≤ N) (l : List Int) (hm : l.length ≤ 9223372036854775807) : m_slices_ContainsFunc_Lint_int_sum_odd N l = some (!decide (OddR l)) := by
  obtain ⟨N, rfl⟩ : ∃ n, N = n + 2 := ⟨N - 2, by omega⟩
  obtain ⟨r, h1, h2⟩ := soddf_loop N (by omega) l hm l.length 0 N (by omega) (by have := Fu_eq; omega)
  rw [m_slices_ContainsFunc_Lint_int_sum_odd_eq, m_slices_IndexFunc_Lint_int_sum_odd_eq, show ((0 : Int) = ((0 : Nat) : Int)) from rfl, h1, ob, List.drop_zero]
  by_cases h : OddR l
  · rw [if_pos h]; simp [h, ob]
  · rw [if_neg h]; simp [h, ob, h2]
end Go.Proofs.Ytiblkkkgajklfaa
/-! Sums, built: the program's (printed by wip/plain/gensum.py: twice alike, for weights that are read, and for weights that are handed over). -/
namespace Go.Proofs.Ytiblkkkgajklfaa
open Go Go.RowKit

theorem sb1 (N : Nat) (n0 : Int) (w t t2 : List Int) (t3 : List (List Int)) (hw : OddR w) (h1000 : w.length ≤ 1000) : ∀ (k i m : Nat), i + k = w.length → k < m →
    l_sum_Build_1 N m (n0, w, ((w.length : Nat) : Int), (i : Int), t, t2, t3, ((List.range (w.length + 1)).map fun j => if j ≤ i then pre w j else 0)) = some (n0, t, t2, t3, ((List.range (w.length + 1)).map (pre w)))
  | k, i, 0, h1, h2 => by omega
  | 0, i, m + 1, h1, h2 => by
    rw [l_sum_Build_1_s, cd, if_neg (by omega)]
    have : ((List.range (w.length + 1)).map fun j => if j ≤ i then pre w j else 0) = (List.range (w.length + 1)).map (pre w) := List.map_congr_left fun j hj => by
      have := List.mem_range.1 hj
      rw [if_pos (by omega)]
    rw [this]
  | k + 1, i, m + 1, h1, h2 => by
    have hx := hAt_get (hs := w) (j := i) (by omega)
    have hg := map_get (w.length + 1) i (fun j => if j ≤ i then pre w j else 0) (by omega)
    have hg2 := map_get (w.length + 1) (i + 1) (fun j => if j ≤ i then pre w j else 0) (by omega)
    simp only [Nat.le_refl, if_true] at hg
    have b1 := pre_le hw i
    have b2 := odd_at hw i
    rw [l_sum_Build_1_s, cd, if_pos (by omega), nth_of hx, ob, nth_of hg, ob, ob, w64n (by omega), nth_of hg2, ob, ob, w64 (x := pre w i + hAt w i) (by omega) (by omega), Int.toNat_natCast, set_map]
    have : ((List.range (w.length + 1)).map fun j => if j = i + 1 then pre w i + hAt w i else if j ≤ i then pre w j else 0) = (List.range (w.length + 1)).map fun j => if j ≤ i + 1 then pre w j else 0 := List.map_congr_left fun j hj => by
      by_cases e : j = i + 1
      · subst e
        rw [if_pos rfl, if_pos (Nat.le_refl _), pre]
      · rw [if_neg e]
        by_cases e2 : j ≤ i
        · rw [if_pos e2, if_pos (by omega)]
        · rw [if_neg e2, if_neg (by omega)]
    rw [this]
    exact sb1 N n0 w t t2 t3 hw h1000 k (i + 1) m (by omega) (by omega)
theorem sb3 (N : Nat) (hN : Fu + 1 ≤ N) (hs w : List Int) (v56 sums : List (List Int)) (v57 v58 : Int) (i H : Nat) (hl : w.length = hs.length) (hw : OddR w) (h1000 : hs.length ≤ 1000) (hi : i < hs.length) (hsl : sums.length = hs.length) (hH : hAt hs i = (H : Int)) (h8 : H ≤ 8) : ∀ (q h m : Nat), h + q = H → q < m →
    l_sum_Build_3 N m (((hs.length : Nat) : Int), (i : Int), v56, v57, v58, linksOf hs i, (H : Int), (h : Int), (List.range (w.length + 1)).map (pre w), sums, (i : Int), ((List.range h).map fun h => segS w i (dist hs i h))) = some (((hs.length : Nat) : Int), v56, v57, v58, (List.range (w.length + 1)).map (pre w), sums, (i : Int), ((List.range H).map fun h => segS w i (dist hs i h)))
  | q, h, 0, h1, h2 => by omega
  | 0, h, m + 1, h1, h2 => by
    rw [l_sum_Build_3_s, cd, if_neg (by omega)]
    have : h = H := by omega
    rw [this]
  | q + 1, h, m + 1, h1, h2 => by
    obtain ⟨N', rfl⟩ : ∃ n, N = n + 1 := ⟨N - 1, by omega⟩
    have hh : (h : Int) < hAt hs i := by omega
    have hml := Nat.mod_lt (i + dist hs i h) (show 0 < hs.length by omega)
    have hk : (linksOf hs i)[h]? = some (((i + dist hs i h) % hs.length : Nat) : Int) := map_get _ _ _ (by omega)
    have g1 := map_get (w.length + 1) ((i + dist hs i h) % hs.length) (pre w) (by omega)
    have g2 := map_get (w.length + 1) i (pre w) (by omega)
    have g3 := map_get (w.length + 1) hs.length (pre w) (by omega)
    obtain ⟨x, gx⟩ := get_at (xs := sums) (i := i) (by omega)
    have b1 := pre_le hw ((i + dist hs i h) % hs.length)
    have b2 := pre_le hw i
    have b3 := pre_le hw hs.length
    have key := link_seg hl hi hh
    have seg8 := seg_le hw i (dist hs i h)
    obtain ⟨_, d1, d2, _⟩ := dist_ok hi hh
    have hap : appI 8 ((List.range h).map fun h => segS w i (dist hs i h)) [segS w i (dist hs i h)] = some ((List.range (h + 1)).map fun h => segS w i (dist hs i h)) := by
      rw [app_of (by omega) (by simp; omega), List.range_succ, List.map_append]; rfl
    have e4 : l_sum_Build_4 (N' + 1) (N' + 1) (((hs.length : Nat) : Int), (i : Int), (((i + dist hs i h) % hs.length : Nat) : Int), IntKind.wrap .i64 (pre w ((i + dist hs i h) % hs.length) - pre w i), v56, v57, v58, linksOf hs i, (H : Int), (h : Int), (List.range (w.length + 1)).map (pre w), sums, (i : Int), ((List.range h).map fun h => segS w i (dist hs i h))) =
        some (((hs.length : Nat) : Int), (i : Int), segS w i (dist hs i h), v56, v57, v58, linksOf hs i, (H : Int), (h : Int), (List.range (w.length + 1)).map (pre w), sums, (i : Int), ((List.range h).map fun h => segS w i (dist hs i h))) := by
      rw [l_sum_Build_4_s, cd, w64 (x := pre w ((i + dist hs i h) % hs.length) - pre w i) (by omega) (by omega)]
      by_cases c : (i + dist hs i h) % hs.length ≤ i
      · rw [if_pos c] at key
        rw [if_pos (by omega), nth_of g3, ob, ob, w64 (by omega) (by omega), key]
      · rw [if_neg c, Int.add_zero] at key
        rw [if_neg (by omega), key]
    rw [l_sum_Build_3_s, cd, if_pos (by omega), nth_of hk, ob, nth_of g1, ob, ob, nth_of g2, ob, ob, e4, ob]
    simp only [nth_of gx, ob, decide_true, cond_true, hap]
    rw [w64n (by omega)]
    exact sb3 (N' + 1) hN hs w v56 sums v57 v58 i H hl hw h1000 hi hsl hH h8 q (h + 1) m (by omega) (by omega)
theorem sb2 (N : Nat) (hN : Fu + 1 ≤ N) (hs w : List Int) (hh : HighR hs) (hl : w.length = hs.length) (hw : OddR w) (h1000 : hs.length ≤ 1000) : ∀ (q i m : Nat), i + q = hs.length → q < m →
    l_sum_Build_2 N m (((hs.length : Nat) : Int), nextOf hs, ((hs.length : Nat) : Int), (i : Int), (List.range (w.length + 1)).map (pre w), ((List.range hs.length).map fun j => if j < i then rowS hs w j else [])) = some (sumsOf hs w)
  | q, i, 0, h1, h2 => by omega
  | 0, i, m + 1, h1, h2 => by
    rw [l_sum_Build_2_s, cd, if_neg (by omega)]
    have : ((List.range hs.length).map fun j => if j < i then rowS hs w j else []) = sumsOf hs w := List.map_congr_left fun j hj => by
      have := List.mem_range.1 hj
      rw [if_pos (by omega)]
    rw [this]
  | q + 1, i, m + 1, h1, h2 => by
    have hb := high_at hh (j := i) (by omega)
    obtain ⟨H, hH⟩ : ∃ H : Nat, hAt hs i = (H : Int) := ⟨_, (Int.toNat_of_nonneg (by omega)).symm⟩
    have hk : (nextOf hs)[i]? = some (linksOf hs i) := map_get _ _ _ (by omega)
    have gs := map_get hs.length i (fun j => if j < i then rowS hs w j else []) (by omega)
    simp only [Nat.lt_irrefl, if_false] at gs
    have e3 := sb3 N hN hs w (nextOf hs) ((List.range hs.length).map fun j => if j < i then rowS hs w j else []) ((hs.length : Nat) : Int) (i : Int) i H hl hw h1000 (by omega) (by simp) hH (by omega) H 0 N (by omega) (by have := Fu_eq; omega)
    rw [show (List.range 0).map (fun h => segS w i (dist hs i h)) = [] from rfl] at e3
    have hlen : (((linksOf hs i).length : Nat) : Int) = (H : Int) := by simp [linksOf, hH]
    have hrow : ((List.range H).map fun h => segS w i (dist hs i h)) = rowS hs w i := by unfold rowS; rw [hH]; rfl
    have hne : isNilL (rowS hs w i) = false := by
      cases hr : rowS hs w i with
      | nil => have := rowS_len hs w i; rw [hr] at this; simp at this; omega
      | cons => rfl
    rw [l_sum_Build_2_s, cd, if_pos (by omega), nth_of hk, ob, nth_of gs, ob]
    rw [show isNilL ([] : List Int) = true from rfl, cond_true, hlen, show ((0 : Int) = ((0 : Nat) : Int)) from rfl, e3, ob]
    simp only [nth_of gs, ob, hrow, hne, cond_false]
    rw [w64n (by omega), Int.toNat_natCast, set_map]
    have : ((List.range hs.length).map fun j => if j = i then rowS hs w i else if j < i then rowS hs w j else []) = (List.range hs.length).map fun j => if j < i + 1 then rowS hs w j else [] := List.map_congr_left fun j hj => by
      by_cases e : j = i
      · subst e; rw [if_pos rfl, if_pos (by omega)]
      · rw [if_neg e]
        by_cases e2 : j < i
        · rw [if_pos e2, if_pos (by omega)]
        · rw [if_neg e2, if_neg (by omega)]
    rw [this]
    exact sb2 N hN hs w hh hl hw h1000 q (i + 1) m (by omega) (by omega)
theorem sbuild_eq (N : Nat) (hN : Fu + 8 ≤ N) (t t2 : List Int) (t3 : List (List Int)) (w : List Int) (h1 : t.length ≤ 9223372036854775807) (h2 : t2.length ≤ 9223372036854775807) (h3 : w.length ≤ 9223372036854775807) : m_sum_Build N (t, t2, t3, w) = some ((sumOf t t2 t3 w).1, (sumOf t t2 t3 w).2) := by
  obtain ⟨N, rfl⟩ : ∃ n, N = n + 1 := ⟨N - 1, by omega⟩
  unfold sumOf
  rw [m_sum_Build_eq, cdn]
  by_cases c1 : w.length ≠ t.length
  · rw [if_neg (by omega), if_neg (fun h => c1 h.1)]
  have c1 := Decidable.not_not.1 c1
  rw [if_pos (by omega), tright_eq N (by omega) t t2 t3 h1 h2, ob]
  by_cases c2 : ¬ TowerR t t2 t3
  · rw [if_neg (fun h => c2 h.2.1)]
    simp [c2]
  have c2 := Decidable.not_not.1 c2
  rw [soddf_eq N (by omega) w h3, ob]
  by_cases c3 : ¬ OddR w
  · rw [if_neg (fun h => c3 h.2.2)]
    simp [c2, c3]
  have c3 := Decidable.not_not.1 c3
  obtain ⟨l1, l2, l3⟩ := towerR_len c2
  rw [if_pos ⟨c1, c2, c3⟩]
  simp only [c2, c3, decide_true, Bool.not_true, cond_false]
  have e1 := sb1 N ((t.length : Nat) : Int) w t t2 t3 c3 (by omega) w.length 0 N (by omega) (by have := Fu_eq; omega)
  have e0 : ((List.range (w.length + 1)).map fun j => if j ≤ 0 then pre w j else 0) = List.replicate (t.length + 1) 0 := by
    rw [c1]
    refine List.ext_getElem? fun j => ?_
    rw [List.getElem?_map, List.getElem?_replicate]
    by_cases hj : j < t.length + 1
    · rw [List.getElem?_range hj, if_pos hj]
      cases j with
      | zero => rfl
      | succ j => simp
    · rw [List.getElem?_eq_none (by simp; omega), if_neg hj]; rfl
  rw [e0] at e1
  have e2 := sb2 N (by omega) t2 w c2.1.2.2.2 (by omega) c3 (by omega) t2.length 0 N (by omega) (by have := Fu_eq; omega)
  have e5 : ((List.range t2.length).map fun j => if j < 0 then rowS t2 w j else []) = List.replicate t2.length [] := by
    refine List.ext_getElem? fun j => ?_
    rw [List.getElem?_map, List.getElem?_replicate]
    by_cases hj : j < t2.length
    · rw [List.getElem?_range hj, if_pos hj]; simp
    · rw [List.getElem?_eq_none (by simp; omega), if_neg hj]; rfl
  rw [e5, ← c2.2] at e2
  have hnl : t3.length = t2.length := by rw [c2.2]; simp [nextOf]
  rw [show (((0 : Nat) : Int) = 0) from rfl] at e1 e2
  rw [w64 (by omega) (by omega), mak_of (by omega) (by omega) (by omega), ob, show ((((t.length : Nat) : Int) + 1).toNat) = t.length + 1 by omega, e1, ob]
  simp only
  rw [mak_of (by omega) (by omega) (by omega), ob, Int.toNat_natCast, hnl, ← l2, e2, ob]

theorem sb1_o (N : Nat) (n0 : Int) (w t t2 : List Int) (t3 : List (List Int)) (hw : OddR w) (h1000 : w.length ≤ 1000) : ∀ (k i m : Nat), i + k = w.length → k < m →
    l_sum_Build_o_1 N m (n0, ((w.length : Nat) : Int), (i : Int), t, t2, t3, ((List.range (w.length + 1)).map fun j => if j ≤ i then pre w j else 0), w) = some (n0, t, t2, t3, ((List.range (w.length + 1)).map (pre w)), w)
  | k, i, 0, h1, h2 => by omega
  | 0, i, m + 1, h1, h2 => by
    rw [l_sum_Build_o_1_s, cd, if_neg (by omega)]
    have : ((List.range (w.length + 1)).map fun j => if j ≤ i then pre w j else 0) = (List.range (w.length + 1)).map (pre w) := List.map_congr_left fun j hj => by
      have := List.mem_range.1 hj
      rw [if_pos (by omega)]
    rw [this]
  | k + 1, i, m + 1, h1, h2 => by
    have hx := hAt_get (hs := w) (j := i) (by omega)
    have hg := map_get (w.length + 1) i (fun j => if j ≤ i then pre w j else 0) (by omega)
    have hg2 := map_get (w.length + 1) (i + 1) (fun j => if j ≤ i then pre w j else 0) (by omega)
    simp only [Nat.le_refl, if_true] at hg
    have b1 := pre_le hw i
    have b2 := odd_at hw i
    rw [l_sum_Build_o_1_s, cd, if_pos (by omega), nth_of hx, ob, ob, nth_of hg, ob, ob, w64n (by omega), nth_of hg2, ob, ob, w64 (x := pre w i + hAt w i) (by omega) (by omega), Int.toNat_natCast, set_map]
    have : ((List.range (w.length + 1)).map fun j => if j = i + 1 then pre w i + hAt w i else if j ≤ i then pre w j else 0) = (List.range (w.length + 1)).map fun j => if j ≤ i + 1 then pre w j else 0 := List.map_congr_left fun j hj => by
      by_cases e : j = i + 1
      · subst e
        rw [if_pos rfl, if_pos (Nat.le_refl _), pre]
      · rw [if_neg e]
        by_cases e2 : j ≤ i
        · rw [if_pos e2, if_pos (by omega)]
        · rw [if_neg e2, if_neg (by omega)]
    rw [this]
    exact sb1_o N n0 w t t2 t3 hw h1000 k (i + 1) m (by omega) (by omega)
theorem sb3_o (N : Nat) (hN : Fu + 1 ≤ N) (hs w : List Int) (v56 sums : List (List Int)) (v57 v58 : Int) (i H : Nat) (hl : w.length = hs.length) (hw : OddR w) (h1000 : hs.length ≤ 1000) (hi : i < hs.length) (hsl : sums.length = hs.length) (hH : hAt hs i = (H : Int)) (h8 : H ≤ 8) : ∀ (q h m : Nat), h + q = H → q < m →
    l_sum_Build_o_3 N m (((hs.length : Nat) : Int), (i : Int), v56, v57, v58, linksOf hs i, (H : Int), (h : Int), (List.range (w.length + 1)).map (pre w), sums, (i : Int), w, ((List.range h).map fun h => segS w i (dist hs i h))) = some (((hs.length : Nat) : Int), v56, v57, v58, (List.range (w.length + 1)).map (pre w), sums, (i : Int), w, ((List.range H).map fun h => segS w i (dist hs i h)))
  | q, h, 0, h1, h2 => by omega
  | 0, h, m + 1, h1, h2 => by
    rw [l_sum_Build_o_3_s, cd, if_neg (by omega)]
    have : h = H := by omega
    rw [this]
  | q + 1, h, m + 1, h1, h2 => by
    obtain ⟨N', rfl⟩ : ∃ n, N = n + 1 := ⟨N - 1, by omega⟩
    have hh : (h : Int) < hAt hs i := by omega
    have hml := Nat.mod_lt (i + dist hs i h) (show 0 < hs.length by omega)
    have hk : (linksOf hs i)[h]? = some (((i + dist hs i h) % hs.length : Nat) : Int) := map_get _ _ _ (by omega)
    have g1 := map_get (w.length + 1) ((i + dist hs i h) % hs.length) (pre w) (by omega)
    have g2 := map_get (w.length + 1) i (pre w) (by omega)
    have g3 := map_get (w.length + 1) hs.length (pre w) (by omega)
    obtain ⟨x, gx⟩ := get_at (xs := sums) (i := i) (by omega)
    have b1 := pre_le hw ((i + dist hs i h) % hs.length)
    have b2 := pre_le hw i
    have b3 := pre_le hw hs.length
    have key := link_seg hl hi hh
    have seg8 := seg_le hw i (dist hs i h)
    obtain ⟨_, d1, d2, _⟩ := dist_ok hi hh
    have hap : appI 8 ((List.range h).map fun h => segS w i (dist hs i h)) [segS w i (dist hs i h)] = some ((List.range (h + 1)).map fun h => segS w i (dist hs i h)) := by
      rw [app_of (by omega) (by simp; omega), List.range_succ, List.map_append]; rfl
    have e4 : l_sum_Build_o_4 (N' + 1) (N' + 1) (((hs.length : Nat) : Int), (i : Int), (((i + dist hs i h) % hs.length : Nat) : Int), IntKind.wrap .i64 (pre w ((i + dist hs i h) % hs.length) - pre w i), v56, v57, v58, linksOf hs i, (H : Int), (h : Int), (List.range (w.length + 1)).map (pre w), sums, (i : Int), w, ((List.range h).map fun h => segS w i (dist hs i h))) =
        some (((hs.length : Nat) : Int), (i : Int), segS w i (dist hs i h), v56, v57, v58, linksOf hs i, (H : Int), (h : Int), (List.range (w.length + 1)).map (pre w), sums, (i : Int), w, ((List.range h).map fun h => segS w i (dist hs i h))) := by
      rw [l_sum_Build_o_4_s, cd, w64 (x := pre w ((i + dist hs i h) % hs.length) - pre w i) (by omega) (by omega)]
      by_cases c : (i + dist hs i h) % hs.length ≤ i
      · rw [if_pos c] at key
        rw [if_pos (by omega), nth_of g3, ob, ob, w64 (by omega) (by omega), key]
      · rw [if_neg c, Int.add_zero] at key
        rw [if_neg (by omega), key]
    rw [l_sum_Build_o_3_s, cd, if_pos (by omega), nth_of hk, ob, nth_of g1, ob, ob, nth_of g2, ob, ob, e4, ob]
    simp only [nth_of gx, ob, decide_true, cond_true, hap]
    rw [w64n (by omega)]
    exact sb3_o (N' + 1) hN hs w v56 sums v57 v58 i H hl hw h1000 hi hsl hH h8 q (h + 1) m (by omega) (by omega)
theorem sb2_o (N : Nat) (hN : Fu + 1 ≤ N) (hs w : List Int) (hh : HighR hs) (hl : w.length = hs.length) (hw : OddR w) (h1000 : hs.length ≤ 1000) : ∀ (q i m : Nat), i + q = hs.length → q < m →
    l_sum_Build_o_2 N m (((hs.length : Nat) : Int), nextOf hs, ((hs.length : Nat) : Int), (i : Int), (List.range (w.length + 1)).map (pre w), ((List.range hs.length).map fun j => if j < i then rowS hs w j else []), w) = some (sumsOf hs w, w)
  | q, i, 0, h1, h2 => by omega
  | 0, i, m + 1, h1, h2 => by
    rw [l_sum_Build_o_2_s, cd, if_neg (by omega)]
    have : ((List.range hs.length).map fun j => if j < i then rowS hs w j else []) = sumsOf hs w := List.map_congr_left fun j hj => by
      have := List.mem_range.1 hj
      rw [if_pos (by omega)]
    rw [this]
  | q + 1, i, m + 1, h1, h2 => by
    have hb := high_at hh (j := i) (by omega)
    obtain ⟨H, hH⟩ : ∃ H : Nat, hAt hs i = (H : Int) := ⟨_, (Int.toNat_of_nonneg (by omega)).symm⟩
    have hk : (nextOf hs)[i]? = some (linksOf hs i) := map_get _ _ _ (by omega)
    have gs := map_get hs.length i (fun j => if j < i then rowS hs w j else []) (by omega)
    simp only [Nat.lt_irrefl, if_false] at gs
    have e3 := sb3_o N hN hs w (nextOf hs) ((List.range hs.length).map fun j => if j < i then rowS hs w j else []) ((hs.length : Nat) : Int) (i : Int) i H hl hw h1000 (by omega) (by simp) hH (by omega) H 0 N (by omega) (by have := Fu_eq; omega)
    rw [show (List.range 0).map (fun h => segS w i (dist hs i h)) = [] from rfl] at e3
    have hlen : (((linksOf hs i).length : Nat) : Int) = (H : Int) := by simp [linksOf, hH]
    have hrow : ((List.range H).map fun h => segS w i (dist hs i h)) = rowS hs w i := by unfold rowS; rw [hH]; rfl
    have hne : isNilL (rowS hs w i) = false := by
      cases hr : rowS hs w i with
      | nil => have := rowS_len hs w i; rw [hr] at this; simp at this; omega
      | cons => rfl
    rw [l_sum_Build_o_2_s, cd, if_pos (by omega), nth_of hk, ob, nth_of gs, ob]
    rw [show isNilL ([] : List Int) = true from rfl, cond_true, hlen, show ((0 : Int) = ((0 : Nat) : Int)) from rfl, e3, ob]
    simp only [nth_of gs, ob, hrow, hne, cond_false]
    rw [w64n (by omega), Int.toNat_natCast, set_map]
    have : ((List.range hs.length).map fun j => if j = i then rowS hs w i else if j < i then rowS hs w j else []) = (List.range hs.length).map fun j => if j < i + 1 then rowS hs w j else [] := List.map_congr_left fun j hj => by
      by_cases e : j = i
      · subst e; rw [if_pos rfl, if_pos (by omega)]
      · rw [if_neg e]
        by_cases e2 : j < i
        · rw [if_pos e2, if_pos (by omega)]
        · rw [if_neg e2, if_neg (by omega)]
    rw [this]
    exact sb2_o N hN hs w hh hl hw h1000 q (i + 1) m (by omega) (by omega)
theorem sbuild_o_eq (N : Nat) (hN : Fu + 8 ≤ N) (t t2 : List Int) (t3 : List (List Int)) (w : List Int) (h1 : t.length ≤ 9223372036854775807) (h2 : t2.length ≤ 9223372036854775807) (h3 : w.length ≤ 9223372036854775807) : m_sum_Build_o N (t, t2, t3, w) = some ((sumOf t t2 t3 w).1, (sumOf t t2 t3 w).2, w) := by
  obtain ⟨N, rfl⟩ : ∃ n, N = n + 1 := ⟨N - 1, by omega⟩
  unfold sumOf
  rw [m_sum_Build_o_eq, cdn]
  by_cases c1 : w.length ≠ t.length
  · rw [if_neg (by omega), if_neg (fun h => c1 h.1)]
  have c1 := Decidable.not_not.1 c1
  rw [if_pos (by omega), tright_eq N (by omega) t t2 t3 h1 h2, ob]
  by_cases c2 : ¬ TowerR t t2 t3
  · rw [if_neg (fun h => c2 h.2.1)]
    simp [c2]
  have c2 := Decidable.not_not.1 c2
  rw [soddf_eq N (by omega) w h3, ob]
  by_cases c3 : ¬ OddR w
  · rw [if_neg (fun h => c3 h.2.2)]
    simp [c2, c3]
  have c3 := Decidable.not_not.1 c3
  obtain ⟨l1, l2, l3⟩ := towerR_len c2
  rw [if_pos ⟨c1, c2, c3⟩]
  simp only [c2, c3, decide_true, Bool.not_true, cond_false]
  have e1 := sb1_o N ((t.length : Nat) : Int) w t t2 t3 c3 (by omega) w.length 0 N (by omega) (by have := Fu_eq; omega)
  have e0 : ((List.range (w.length + 1)).map fun j => if j ≤ 0 then pre w j else 0) = List.replicate (t.length + 1) 0 := by
    rw [c1]
    refine List.ext_getElem? fun j => ?_
    rw [List.getElem?_map, List.getElem?_replicate]
    by_cases hj : j < t.length + 1
    · rw [List.getElem?_range hj, if_pos hj]
      cases j with
      | zero => rfl
      | succ j => simp
    · rw [List.getElem?_eq_none (by simp; omega), if_neg hj]; rfl
  rw [e0] at e1
  have e2 := sb2_o N (by omega) t2 w c2.1.2.2.2 (by omega) c3 (by omega) t2.length 0 N (by omega) (by have := Fu_eq; omega)
  have e5 : ((List.range t2.length).map fun j => if j < 0 then rowS t2 w j else []) = List.replicate t2.length [] := by
    refine List.ext_getElem? fun j => ?_
    rw [List.getElem?_map, List.getElem?_replicate]
    by_cases hj : j < t2.length
    · rw [List.getElem?_range hj, if_pos hj]; simp
    · rw [List.getElem?_eq_none (by simp; omega), if_neg hj]; rfl
  rw [e5, ← c2.2] at e2
  have hnl : t3.length = t2.length := by rw [c2.2]; simp [nextOf]
  rw [show (((0 : Nat) : Int) = 0) from rfl] at e1 e2
  rw [w64 (by omega) (by omega), mak_of (by omega) (by omega) (by omega), ob, show ((((t.length : Nat) : Int) + 1).toNat) = t.length + 1 by omega, e1, ob]
  simp only
  rw [mak_of (by omega) (by omega) (by omega), ob, Int.toNat_natCast, hnl, ← l2, e2, ob]
end Go.Proofs.Ytiblkkkgajklfaa
/-! Sums, built: the document's (printed by wip/plain/gensumc.py: twice alike, for weights that are read, and for weights that are handed over). -/
namespace Go.Proofs.Ytiblkkkgajklfaa
open Go Go.RowKit

theorem rmay_eq (N : Nat) (hN : Fu ≤ N) (x : Int) : m_ref16_may N x = some (decide (-1073741824 ≤ x ∧ x ≤ 1073741824)) := by
  obtain ⟨N, rfl⟩ : ∃ n, N = n + 1 := ⟨N - 1, by have := Fu_eq; omega⟩
  rw [m_ref16_may_eq, cd]
  by_cases h1 : -1073741824 ≤ x
  · rw [if_pos h1]; simp [h1]
  · rw [if_neg h1]; simp [h1]
theorem mod_ne {n i d e : Nat} (hi : i < n) (h1 : 1 ≤ d) (h2 : d < e) (h3 : e ≤ n) : (i + d) % n ≠ (i + e) % n := by
  by_cases a : i + d < n
  · rw [Nat.mod_eq_of_lt a]
    by_cases b : i + e < n
    · rw [Nat.mod_eq_of_lt b]; omega
    · rw [Nat.mod_eq_sub_mod (by omega), Nat.mod_eq_of_lt (by omega)]; omega
  · rw [Nat.mod_eq_sub_mod (by omega), Nat.mod_eq_of_lt (by omega), Nat.mod_eq_sub_mod (show n ≤ i + e by omega), Nat.mod_eq_of_lt (by omega)]; omega

theorem rb1 (N : Nat) (hN : Fu ≤ N) (n0 : Nat) (w t t2 : List Int) (t3 : List (List Int)) (hn : n0 = w.length) (h1000 : w.length ≤ 1000) : ∀ (k i m : Nat), i + k = w.length → k < m →
    l_ref16_Build_1 N m (w, (n0 : Int), (i : Int), t, t2, t3) = some (if OddR (w.drop i) then .inl (w, (n0 : Int), t, t2, t3) else .inr 1)
  | k, i, 0, h1, h2 => by omega
  | 0, i, m + 1, h1, h2 => by
    rw [l_ref16_Build_1_s, cd, if_neg (by omega), List.drop_eq_nil_of_le (by omega), if_pos (by intro t h; cases h)]
  | k + 1, i, m + 1, h1, h2 => by
    obtain ⟨x, hx⟩ := get_at (xs := w) (i := i) (by omega)
    rw [l_ref16_Build_1_s, cd, if_pos (by omega), nth_of hx, ob, rmay_eq N hN, ob, cdn, drop_at hx]
    by_cases c1 : -1073741824 ≤ x ∧ x ≤ 1073741824
    · rw [if_pos c1, w64n (by omega), rb1 N hN n0 w t t2 t3 hn h1000 k (i + 1) m (by omega) (by omega)]
      have : OddR (x :: w.drop (i + 1)) ↔ OddR (w.drop (i + 1)) := ⟨fun e t ht => e t (by simp [ht]), fun e t ht => by
        rcases List.mem_cons.1 ht with rfl | ht
        · exact c1
        · exact e t ht⟩
      by_cases h5 : OddR (w.drop (i + 1))
      · rw [if_pos h5, if_pos (this.2 h5)]
      · rw [if_neg h5, if_neg (fun e => h5 (this.1 e))]
    · rw [if_neg c1, if_neg (fun e => c1 (e x (by simp)))]
theorem rb4 (N : Nat) (hs w t t2 l : List Int) (out : List (List Int)) (i h : Nat) (hl : w.length = hs.length) (hw : OddR w) (h1000 : hs.length ≤ 1000) (hi : i < hs.length) (hh : (h : Int) < hAt hs i) : ∀ (q d m : Nat), d + q = dist hs i h → 1 ≤ d → q < m →
    l_ref16_Build_4 N m (w, ((hs.length : Nat) : Int), (i : Int), (h : Int), segS w i d, (((i + d) % hs.length : Nat) : Int), t, t2, nextOf hs, out, l) = some (w, ((hs.length : Nat) : Int), (i : Int), (h : Int), segS w i (dist hs i h), t, t2, nextOf hs, out, l)
  | q, d, 0, h1, h2, h3 => by omega
  | q, d, m + 1, h1, h2, h3 => by
    obtain ⟨_, d1, d2, _⟩ := dist_ok hi hh
    have g1 : (nextOf hs)[i]? = some (linksOf hs i) := map_get _ _ _ hi
    have g2 : (linksOf hs i)[h]? = some (((i + dist hs i h) % hs.length : Nat) : Int) := map_get _ _ _ (by omega)
    have hml := Nat.mod_lt (i + d) (show 0 < hs.length by omega)
    rw [l_ref16_Build_4_s, nth_of g1, ob, nth_of g2, ob, cdn]
    cases q with
    | zero =>
      have : d = dist hs i h := by omega
      subst this
      rw [if_pos rfl]
    | succ q =>
      have hne := mod_ne hi h2 (show d < dist hs i h by omega) (by omega)
      have hx := hAt_get (hs := w) (j := (i + d) % hs.length) (by omega)
      have b1 := seg_le hw i d
      have b2 := odd_at hw ((i + d) % hs.length)
      have e1 : ((i + d) % hs.length + 1) % hs.length = (i + (d + 1)) % hs.length := by rw [Nat.mod_add_mod]; rfl
      have e2 : segS w i d + hAt w ((i + d) % hs.length) = segS w i (d + 1) := by rw [segS, hl]
      rw [if_neg (by omega), nth_of hx, ob, w64n (by omega), rem_of (by omega), tmod_nat, ob, w64 (x := segS w i d + _) (by omega) (by omega), e1, e2]
      exact rb4 N hs w t t2 l out i h hl hw h1000 hi hh q (d + 1) m (by omega) (by omega) (by omega)
theorem rb3 (N : Nat) (hN : Fu + 1 ≤ N) (hs w t t2 : List Int) (out : List (List Int)) (i H : Nat) (hl : w.length = hs.length) (hw : OddR w) (h1000 : hs.length ≤ 1000) (hi : i < hs.length) (hH : hAt hs i = (H : Int)) (h8 : H ≤ 8) : ∀ (q h m : Nat), h + q = H → q < m →
    l_ref16_Build_3 N m (w, ((hs.length : Nat) : Int), (i : Int), (h : Int), t, t2, nextOf hs, out, (List.range h).map fun h => segS w i (dist hs i h)) = some (w, ((hs.length : Nat) : Int), (i : Int), t, t2, nextOf hs, out, (List.range H).map fun h => segS w i (dist hs i h))
  | q, h, 0, h1, h2 => by omega
  | 0, h, m + 1, h1, h2 => by
    have g1 : (nextOf hs)[i]? = some (linksOf hs i) := map_get _ _ _ hi
    have hlen : (((linksOf hs i).length : Nat) : Int) = (H : Int) := by simp [linksOf, hH]
    rw [l_ref16_Build_3_s, nth_of g1, ob, cd, hlen, if_neg (by omega)]
    have : h = H := by omega
    rw [this]
  | q + 1, h, m + 1, h1, h2 => by
    have g1 : (nextOf hs)[i]? = some (linksOf hs i) := map_get _ _ _ hi
    have hlen : (((linksOf hs i).length : Nat) : Int) = (H : Int) := by simp [linksOf, hH]
    have hx := hAt_get (hs := w) (j := i) (by omega)
    have hh : (h : Int) < hAt hs i := by omega
    obtain ⟨_, d1, d2, _⟩ := dist_ok hi hh
    have e1 : hAt w i = segS w i 1 := by
      simp only [segS, Nat.add_zero, Int.zero_add]
      rw [Nat.mod_eq_of_lt (by omega)]
    have hap : appI 8 ((List.range h).map fun h => segS w i (dist hs i h)) [segS w i (dist hs i h)] = some ((List.range (h + 1)).map fun h => segS w i (dist hs i h)) := by
      rw [app_of (by omega) (by simp; omega), List.range_succ, List.map_append]; rfl
    have e4 := rb4 N hs w t t2 ((List.range h).map fun h => segS w i (dist hs i h)) out i h hl hw h1000 hi hh (dist hs i h - 1) 1 N (by omega) (by omega) (by have := Fu_eq; omega)
    rw [l_ref16_Build_3_s, nth_of g1, ob, cd, hlen, if_pos (by omega), nth_of hx, ob, w64n (by omega), rem_of (by omega), tmod_nat, ob, e1, e4, ob]
    simp only [hap, ob]
    rw [w64n (by omega)]
    exact rb3 N hN hs w t t2 out i H hl hw h1000 hi hH h8 q (h + 1) m (by omega) (by omega)
theorem rb2 (N : Nat) (hN : Fu + 1 ≤ N) (hs w t t2 : List Int) (hh : HighR hs) (hl : w.length = hs.length) (hw : OddR w) (h1000 : hs.length ≤ 1000) : ∀ (q i m : Nat), i + q = hs.length → q < m →
    l_ref16_Build_2 N m (w, ((hs.length : Nat) : Int), (i : Int), t, t2, nextOf hs, (List.range i).map (rowS hs w)) = some (sumsOf hs w)
  | q, i, 0, h1, h2 => by omega
  | 0, i, m + 1, h1, h2 => by
    rw [l_ref16_Build_2_s, cd, if_neg (by omega)]
    have : i = hs.length := by omega
    rw [this]; rfl
  | q + 1, i, m + 1, h1, h2 => by
    have hb := high_at hh (j := i) (by omega)
    obtain ⟨H, hH⟩ : ∃ H : Nat, hAt hs i = (H : Int) := ⟨_, (Int.toNat_of_nonneg (by omega)).symm⟩
    have e3 := rb3 N hN hs w t t2 ((List.range i).map (rowS hs w)) i H hl hw h1000 (by omega) hH (by omega) H 0 N (by omega) (by have := Fu_eq; omega)
    rw [show (List.range 0).map (fun h => segS w i (dist hs i h)) = [] from rfl] at e3
    have hap : appI 24 ((List.range i).map (rowS hs w)) [(List.range H).map fun h => segS w i (dist hs i h)] = some ((List.range (i + 1)).map (rowS hs w)) := by
      rw [app_of (by omega) (by simp; omega), List.range_succ, List.map_append]
      simp only [List.map_cons, List.map_nil, rowS, hH, Int.toNat_natCast]
    rw [l_ref16_Build_2_s, cd, if_pos (by omega), show ((0 : Int) = ((0 : Nat) : Int)) from rfl, e3, ob]
    simp only [hap, ob]
    rw [w64n (by omega)]
    exact rb2 N hN hs w t t2 hh hl hw h1000 q (i + 1) m (by omega) (by omega)
theorem rbuilds (N : Nat) (hN : Fu + 8 ≤ N) (t t2 : List Int) (t3 : List (List Int)) (w : List Int) (h1 : t.length ≤ 9223372036854775807) (h2 : t2.length ≤ 9223372036854775807) (h3 : w.length ≤ 9223372036854775807) : m_ref16_Build N (t, t2, t3, w) = some ((sumOf t t2 t3 w).1, (sumOf t t2 t3 w).2) := by
  obtain ⟨N, rfl⟩ : ∃ n, N = n + 1 := ⟨N - 1, by omega⟩
  unfold sumOf
  rw [m_ref16_Build_eq, rright_eq N (by omega) t t2 t3 h1 h2, ob]
  by_cases c2 : ¬ TowerR t t2 t3
  · rw [if_neg (fun h => c2 h.2.1)]
    simp [c2]
  have c2 := Decidable.not_not.1 c2
  simp only [c2, decide_true, Bool.not_true, cond_false]
  rw [cdn]
  by_cases c1 : w.length ≠ t.length
  · rw [if_neg (by omega), if_neg (fun h => c1 h.1)]
  have c1 := Decidable.not_not.1 c1
  obtain ⟨l1, l2, l3⟩ := towerR_len c2
  have e1 := rb1 N (by omega) t.length w t t2 t3 c1.symm (by omega) w.length 0 N (by omega) (by have := Fu_eq; omega)
  rw [List.drop_zero, show (((0 : Nat) : Int) = 0) from rfl] at e1
  rw [if_pos (by omega), e1, ob]
  by_cases c3 : ¬ OddR w
  · rw [if_neg c3, if_neg (fun h => c3 h.2.2)]
  have c3 := Decidable.not_not.1 c3
  rw [if_pos c3, if_pos ⟨c1, c2, c3⟩]
  have e2 := rb2 N (by omega) t2 w t t2 c2.1.2.2.2 (by omega) c3 (by omega) t2.length 0 N (by omega) (by have := Fu_eq; omega)
  rw [show (List.range 0).map (rowS t2 w) = [] from rfl, show (((0 : Nat) : Int) = 0) from rfl, ← c2.2, l2] at e2
  simp only [e2, ob]

theorem rb1_o (N : Nat) (hN : Fu ≤ N) (n0 : Nat) (w t t2 : List Int) (t3 : List (List Int)) (hn : n0 = w.length) (h1000 : w.length ≤ 1000) : ∀ (k i m : Nat), i + k = w.length → k < m →
    l_ref16_Build_o_1 N m ((n0 : Int), (i : Int), w, t, t2, t3) = some (if OddR (w.drop i) then .inl ((n0 : Int), w, t, t2, t3) else .inr (1, w))
  | k, i, 0, h1, h2 => by omega
  | 0, i, m + 1, h1, h2 => by
    rw [l_ref16_Build_o_1_s, cd, if_neg (by omega), List.drop_eq_nil_of_le (by omega), if_pos (by intro t h; cases h)]
  | k + 1, i, m + 1, h1, h2 => by
    obtain ⟨x, hx⟩ := get_at (xs := w) (i := i) (by omega)
    rw [l_ref16_Build_o_1_s, cd, if_pos (by omega), nth_of hx, ob, ob, rmay_eq N hN, ob, cdn, drop_at hx]
    by_cases c1 : -1073741824 ≤ x ∧ x ≤ 1073741824
    · rw [if_pos c1, w64n (by omega), rb1_o N hN n0 w t t2 t3 hn h1000 k (i + 1) m (by omega) (by omega)]
      have : OddR (x :: w.drop (i + 1)) ↔ OddR (w.drop (i + 1)) := ⟨fun e t ht => e t (by simp [ht]), fun e t ht => by
        rcases List.mem_cons.1 ht with rfl | ht
        · exact c1
        · exact e t ht⟩
      by_cases h5 : OddR (w.drop (i + 1))
      · rw [if_pos h5, if_pos (this.2 h5)]
      · rw [if_neg h5, if_neg (fun e => h5 (this.1 e))]
    · rw [if_neg c1, if_neg (fun e => c1 (e x (by simp)))]
theorem rb4_o (N : Nat) (hs w t t2 l : List Int) (out : List (List Int)) (i h : Nat) (hl : w.length = hs.length) (hw : OddR w) (h1000 : hs.length ≤ 1000) (hi : i < hs.length) (hh : (h : Int) < hAt hs i) : ∀ (q d m : Nat), d + q = dist hs i h → 1 ≤ d → q < m →
    l_ref16_Build_o_4 N m (((hs.length : Nat) : Int), (i : Int), (h : Int), segS w i d, (((i + d) % hs.length : Nat) : Int), w, t, t2, nextOf hs, out, l) = some (((hs.length : Nat) : Int), (i : Int), (h : Int), segS w i (dist hs i h), w, t, t2, nextOf hs, out, l)
  | q, d, 0, h1, h2, h3 => by omega
  | q, d, m + 1, h1, h2, h3 => by
    obtain ⟨_, d1, d2, _⟩ := dist_ok hi hh
    have g1 : (nextOf hs)[i]? = some (linksOf hs i) := map_get _ _ _ hi
    have g2 : (linksOf hs i)[h]? = some (((i + dist hs i h) % hs.length : Nat) : Int) := map_get _ _ _ (by omega)
    have hml := Nat.mod_lt (i + d) (show 0 < hs.length by omega)
    rw [l_ref16_Build_o_4_s, nth_of g1, ob, nth_of g2, ob, cdn]
    cases q with
    | zero =>
      have : d = dist hs i h := by omega
      subst this
      rw [if_pos rfl]
    | succ q =>
      have hne := mod_ne hi h2 (show d < dist hs i h by omega) (by omega)
      have hx := hAt_get (hs := w) (j := (i + d) % hs.length) (by omega)
      have b1 := seg_le hw i d
      have b2 := odd_at hw ((i + d) % hs.length)
      have e1 : ((i + d) % hs.length + 1) % hs.length = (i + (d + 1)) % hs.length := by rw [Nat.mod_add_mod]; rfl
      have e2 : segS w i d + hAt w ((i + d) % hs.length) = segS w i (d + 1) := by rw [segS, hl]
      rw [if_neg (by omega), nth_of hx, ob, ob, w64n (by omega), rem_of (by omega), tmod_nat, ob, w64 (x := segS w i d + _) (by omega) (by omega), e1, e2]
      exact rb4_o N hs w t t2 l out i h hl hw h1000 hi hh q (d + 1) m (by omega) (by omega) (by omega)
theorem rb3_o (N : Nat) (hN : Fu + 1 ≤ N) (hs w t t2 : List Int) (out : List (List Int)) (i H : Nat) (hl : w.length = hs.length) (hw : OddR w) (h1000 : hs.length ≤ 1000) (hi : i < hs.length) (hH : hAt hs i = (H : Int)) (h8 : H ≤ 8) : ∀ (q h m : Nat), h + q = H → q < m →
    l_ref16_Build_o_3 N m (((hs.length : Nat) : Int), (i : Int), (h : Int), w, t, t2, nextOf hs, out, (List.range h).map fun h => segS w i (dist hs i h)) = some (((hs.length : Nat) : Int), (i : Int), w, t, t2, nextOf hs, out, (List.range H).map fun h => segS w i (dist hs i h))
  | q, h, 0, h1, h2 => by omega
  | 0, h, m + 1, h1, h2 => by
    have g1 : (nextOf hs)[i]? = some (linksOf hs i) := map_get _ _ _ hi
    have hlen : (((linksOf hs i).length : Nat) : Int) = (H : Int) := by simp [linksOf, hH]
    rw [l_ref16_Build_o_3_s, nth_of g1, ob, cd, hlen, if_neg (by omega)]
    have : h = H := by omega
    rw [this]
  | q + 1, h, m + 1, h1, h2 => by
    have g1 : (nextOf hs)[i]? = some (linksOf hs i) := map_get _ _ _ hi
    have hlen : (((linksOf hs i).length : Nat) : Int) = (H : Int) := by simp [linksOf, hH]
    have hx := hAt_get (hs := w) (j := i) (by omega)
    have hh : (h : Int) < hAt hs i := by omega
    obtain ⟨_, d1, d2, _⟩ := dist_ok hi hh
    have e1 : hAt w i = segS w i 1 := by
      simp only [segS, Nat.add_zero, Int.zero_add]
      rw [Nat.mod_eq_of_lt (by omega)]
    have hap : appI 8 ((List.range h).map fun h => segS w i (dist hs i h)) [segS w i (dist hs i h)] = some ((List.range (h + 1)).map fun h => segS w i (dist hs i h)) := by
      rw [app_of (by omega) (by simp; omega), List.range_succ, List.map_append]; rfl
    have e4 := rb4_o N hs w t t2 ((List.range h).map fun h => segS w i (dist hs i h)) out i h hl hw h1000 hi hh (dist hs i h - 1) 1 N (by omega) (by omega) (by have := Fu_eq; omega)
    rw [l_ref16_Build_o_3_s, nth_of g1, ob, cd, hlen, if_pos (by omega), nth_of hx, ob, ob, w64n (by omega), rem_of (by omega), tmod_nat, ob, e1, e4, ob]
    simp only [hap, ob]
    rw [w64n (by omega)]
    exact rb3_o N hN hs w t t2 out i H hl hw h1000 hi hH h8 q (h + 1) m (by omega) (by omega)
theorem rb2_o (N : Nat) (hN : Fu + 1 ≤ N) (hs w t t2 : List Int) (hh : HighR hs) (hl : w.length = hs.length) (hw : OddR w) (h1000 : hs.length ≤ 1000) : ∀ (q i m : Nat), i + q = hs.length → q < m →
    l_ref16_Build_o_2 N m (((hs.length : Nat) : Int), (i : Int), w, t, t2, nextOf hs, (List.range i).map (rowS hs w)) = some (sumsOf hs w, w)
  | q, i, 0, h1, h2 => by omega
  | 0, i, m + 1, h1, h2 => by
    rw [l_ref16_Build_o_2_s, cd, if_neg (by omega)]
    have : i = hs.length := by omega
    rw [this]; rfl
  | q + 1, i, m + 1, h1, h2 => by
    have hb := high_at hh (j := i) (by omega)
    obtain ⟨H, hH⟩ : ∃ H : Nat, hAt hs i = (H : Int) := ⟨_, (Int.toNat_of_nonneg (by omega)).symm⟩
    have e3 := rb3_o N hN hs w t t2 ((List.range i).map (rowS hs w)) i H hl hw h1000 (by omega) hH (by omega) H 0 N (by omega) (by have := Fu_eq; omega)
    rw [show (List.range 0).map (fun h => segS w i (dist hs i h)) = [] from rfl] at e3
    have hap : appI 24 ((List.range i).map (rowS hs w)) [(List.range H).map fun h => segS w i (dist hs i h)] = some ((List.range (i + 1)).map (rowS hs w)) := by
      rw [app_of (by omega) (by simp; omega), List.range_succ, List.map_append]
      simp only [List.map_cons, List.map_nil, rowS, hH, Int.toNat_natCast]
    rw [l_ref16_Build_o_2_s, cd, if_pos (by omega), show ((0 : Int) = ((0 : Nat) : Int)) from rfl, e3, ob]
    simp only [hap, ob]
    rw [w64n (by omega)]
    exact rb2_o N hN hs w t t2 hh hl hw h1000 q (i + 1) m (by omega) (by omega)
theorem rbuilds_o (N : Nat) (hN : Fu + 8 ≤ N) (t t2 : List Int) (t3 : List (List Int)) (w : List Int) (h1 : t.length ≤ 9223372036854775807) (h2 : t2.length ≤ 9223372036854775807) (h3 : w.length ≤ 9223372036854775807) : m_ref16_Build_o N (t, t2, t3, w) = some ((sumOf t t2 t3 w).1, (sumOf t t2 t3 w).2, w) := by
  obtain ⟨N, rfl⟩ : ∃ n, N = n + 1 := ⟨N - 1, by omega⟩
  unfold sumOf
  rw [m_ref16_Build_o_eq, rright_eq N (by omega) t t2 t3 h1 h2, ob]
  by_cases c2 : ¬ TowerR t t2 t3
  · rw [if_neg (fun h => c2 h.2.1)]
    simp [c2]
  have c2 := Decidable.not_not.1 c2
  simp only [c2, decide_true, Bool.not_true, cond_false]
  rw [cdn]
  by_cases c1 : w.length ≠ t.length
  · rw [if_neg (by omega), if_neg (fun h => c1 h.1)]
  have c1 := Decidable.not_not.1 c1
  obtain ⟨l1, l2, l3⟩ := towerR_len c2
  have e1 := rb1_o N (by omega) t.length w t t2 t3 c1.symm (by omega) w.length 0 N (by omega) (by have := Fu_eq; omega)
  rw [List.drop_zero, show (((0 : Nat) : Int) = 0) from rfl] at e1
  rw [if_pos (by omega), e1, ob]
  by_cases c3 : ¬ OddR w
  · rw [if_neg c3, if_neg (fun h => c3 h.2.2)]
  have c3 := Decidable.not_not.1 c3
  rw [if_pos c3, if_pos ⟨c1, c2, c3⟩]
  have e2 := rb2_o N (by omega) t2 w t t2 c2.1.2.2.2 (by omega) c3 (by omega) t2.length 0 N (by omega) (by have := Fu_eq; omega)
  rw [show (List.range 0).map (rowS t2 w) = [] from rfl, show (((0 : Nat) : Int) = 0) from rfl, ← c2.2, l2] at e2
  simp only [e2, ob]
end Go.Proofs.Ytiblkkkgajklfaa
/-! Weights of sums, both (printed by wip/plain/gensumd.py). -/
namespace Go.Proofs.Ytiblkkkgajklfaa
open Go Go.RowKit

def firstsOf (s : List (List Int)) : List Int := s.map fun l => hAt l 0
def NeR (s : List (List Int)) : Prop := ∀ l ∈ s, l ≠ []
instance (s : List (List Int)) : Decidable (NeR s) := by unfold NeR; exact inferInstance
def SumsR (t t2 : List Int) (t3 s : List (List Int)) : Prop := NeR s ∧ SumR t t2 t3 (firstsOf s) ∧ sumsOf t2 (firstsOf s) = s
instance (t t2 : List Int) (t3 s : List (List Int)) : Decidable (SumsR t t2 t3 s) := by unfold SumsR; exact inferInstance
def weightsOf (t t2 : List Int) (t3 s : List (List Int)) : List Int := if SumsR t t2 t3 s then firstsOf s else []
theorem sumsR_len {t t2 : List Int} {t3 s : List (List Int)} (h : SumsR t t2 t3 s) : (firstsOf s).length = t2.length ∧ t2.length = t.length ∧ 0 < t2.length ∧ t2.length ≤ 1000 := by
  obtain ⟨_, ⟨h1, h2, _⟩, _⟩ := h
  obtain ⟨l1, l2, l3⟩ := towerR_len h2
  exact ⟨by omega, l2, l3, by omega⟩
theorem firsts_sums {t t2 : List Int} {t3 : List (List Int)} {w : List Int} (h : SumR t t2 t3 w) : firstsOf (sumsOf t2 w) = w := by
  obtain ⟨h1, h2, h3⟩ := h
  obtain ⟨l1, l2, l3⟩ := towerR_len h2
  refine List.ext_getElem? fun j => ?_
  unfold firstsOf sumsOf
  rw [List.map_map]
  by_cases hj : j < t2.length
  · rw [map_get _ _ _ hj, hAt_get (show j < w.length by omega)]
    simp only [Function.comp]
    rw [hAt_of (rowS_first h2.1.2.2.2 (by omega) hj)]
  · rw [List.getElem?_eq_none (by simp; omega), List.getElem?_eq_none (by omega)]
theorem sums_ne {t t2 : List Int} {t3 : List (List Int)} {w : List Int} (h : SumR t t2 t3 w) : NeR (sumsOf t2 w) := by
  intro l hl
  obtain ⟨i, hi, rfl⟩ := List.mem_map.1 hl
  have := high_at h.2.1.1.2.2.2 (List.mem_range.1 hi)
  have h2 := rowS_len t2 w i
  intro e
  rw [e] at h2
  simp at h2; omega
theorem sumsR_of {t t2 : List Int} {t3 : List (List Int)} {w : List Int} (h : SumR t t2 t3 w) : SumsR t t2 t3 (sumsOf t2 w) := by
  refine ⟨sums_ne h, ?_, ?_⟩
  · rw [firsts_sums h]; exact h
  · rw [firsts_sums h]
theorem weights_sums {t t2 : List Int} {t3 : List (List Int)} {w : List Int} (h : SumR t t2 t3 w) : weightsOf t t2 t3 (sumsOf t2 w) = w := by
  rw [weightsOf, if_pos (sumsR_of h), firsts_sums h]
theorem rows_len {hs w : List Int} (hh : HighR hs) : ∀ x ∈ sumsOf hs w, x.length ≤ 9223372036854775807 := by
  intro l hl
  obtain ⟨i, hi, rfl⟩ := List.mem_map.1 hl
  have := high_at hh (List.mem_range.1 hi)
  rw [rowS_len]; omega
theorem sumOf_lens (t t2 : List Int) (t3 : List (List Int)) (w : List Int) : (sumOf t t2 t3 w).2.length ≤ 1000 ∧ ∀ x ∈ (sumOf t t2 t3 w).2, x.length ≤ 8 := by
  unfold sumOf
  split
  · rename_i h
    obtain ⟨l1, l2, l3⟩ := towerR_len h.2.1
    refine ⟨by simp [sumsOf]; omega, fun x hx => ?_⟩
    obtain ⟨i, hi, rfl⟩ := List.mem_map.1 hx
    have := high_at h.2.1.1.2.2.2 (List.mem_range.1 hi)
    rw [rowS_len]; omega
  · exact ⟨by simp, fun x hx => by cases hx⟩
theorem ne_get {l : List Int} (h : l ≠ []) : l[0]? = some (hAt l 0) := by
  cases l with
  | nil => exact absurd rfl h
  | cons => rfl

theorem weights1 (N : Nat) (sums : List (List Int)) (t t2 : List Int) (t3 : List (List Int)) (hm : sums.length ≤ 100000) : ∀ (k i m : Nat), i + k = sums.length → k < m →
    l_sum_Weights_1 N m (sums, sums, ((sums.length : Nat) : Int), (i : Int), t, t2, t3, firstsOf (sums.take i)) = some (if NeR (sums.drop i) then .inl (sums, t, t2, t3, firstsOf sums) else .inr ())
  | k, i, 0, h1, h2 => by omega
  | 0, i, m + 1, h1, h2 => by
    rw [l_sum_Weights_1_s, cd, if_neg (by omega), List.drop_eq_nil_of_le (by omega), if_pos (by intro t h; cases h), List.take_of_length_le (by omega)]
  | k + 1, i, m + 1, h1, h2 => by
    obtain ⟨x, hx⟩ := get_at (xs := sums) (i := i) (by omega)
    rw [l_sum_Weights_1_s, cd, if_pos (by omega), nth_of hx, ob, cd, drop_at hx]
    by_cases c : x = []
    · subst c
      rw [if_pos (show ((([] : List Int).length : Nat) : Int) = 0 from rfl), if_neg (fun e => e [] (by simp) rfl)]
    have c' : ¬ x.length = 0 := fun e => c (List.length_eq_zero_iff.1 e)
    have hap : appI 8 (firstsOf (sums.take i)) [hAt x 0] = some (firstsOf (sums.take (i + 1))) := by
      rw [app_of (by omega) (by simp [firstsOf]; omega), take_at hx]
      simp [firstsOf]
    rw [if_neg (by omega), show ((0 : Int) = ((0 : Nat) : Int)) from rfl, nth_of (ne_get c), ob, hap, ob, w64n (by omega), weights1 N sums t t2 t3 hm k (i + 1) m (by omega) (by omega)]
    have : NeR (x :: sums.drop (i + 1)) ↔ NeR (sums.drop (i + 1)) := ⟨fun e t ht => e t (by simp [ht]), fun e t ht => by
      rcases List.mem_cons.1 ht with rfl | ht
      · exact c
      · exact e t ht⟩
    by_cases h5 : NeR (sums.drop (i + 1))
    · rw [if_pos h5, if_pos (this.2 h5)]
    · rw [if_neg h5, if_neg (fun e => h5 (this.1 e))]
theorem weights_eq (N : Nat) (hN : Fu + 9 ≤ N) (t t2 : List Int) (t3 s : List (List Int)) (h1 : t.length ≤ 9223372036854775807) (h2 : t2.length ≤ 9223372036854775807) (h3 : s.length ≤ 100000) : m_sum_Weights N (t, t2, t3, s) = some (weightsOf t t2 t3 s) := by
  obtain ⟨N, rfl⟩ : ∃ n, N = n + 1 := ⟨N - 1, by omega⟩
  have e1 := weights1 N s t t2 t3 h3 s.length 0 N (by omega) (by have := Fu_eq; omega)
  rw [List.drop_zero, show firstsOf (s.take 0) = [] from rfl, show (((0 : Nat) : Int) = 0) from rfl] at e1
  unfold weightsOf
  rw [m_sum_Weights_eq, e1, ob]
  by_cases c1 : ¬ NeR s
  · rw [if_neg c1, if_neg (fun h => c1 h.1)]
  have c1 := Decidable.not_not.1 c1
  have hl : (firstsOf s).length ≤ 9223372036854775807 := by simp [firstsOf]; omega
  rw [if_pos c1]
  simp only
  rw [sbuild_o_eq N (by omega) t t2 t3 _ h1 h2 hl, ob]
  have hlens := sumOf_lens t t2 t3 (firstsOf s)
  unfold sumOf at *
  by_cases c2 : ¬ SumR t t2 t3 (firstsOf s)
  · rw [if_neg c2, if_neg (fun h => c2 h.2.1)]
    simp
  have c2 := Decidable.not_not.1 c2
  rw [if_pos c2] at hlens ⊢
  simp only [decide_true, Bool.not_true, cond_false]
  rw [equals_eq N (by omega) (sumsOf t2 (firstsOf s)) s (Nat.le_trans hlens.1 (by decide)) (fun x hx => Nat.le_trans (hlens.2 x hx) (by decide)), ob]
  by_cases c3 : sumsOf t2 (firstsOf s) = s
  · rw [if_pos ⟨c1, c2, c3⟩]; simp [c3]
  · rw [if_neg (fun h => c3 h.2.2)]; simp [c3]

theorem weights1r (N : Nat) (sums : List (List Int)) (t t2 : List Int) (t3 : List (List Int)) (hm : sums.length ≤ 100000) : ∀ (k i m : Nat), i + k = sums.length → k < m →
    l_ref16_Weights_1 N m (sums, (i : Int), t, t2, t3, firstsOf (sums.take i)) = some (if NeR (sums.drop i) then .inl (sums, t, t2, t3, firstsOf sums) else .inr ())
  | k, i, 0, h1, h2 => by omega
  | 0, i, m + 1, h1, h2 => by
    rw [l_ref16_Weights_1_s, cd, if_neg (by omega), List.drop_eq_nil_of_le (by omega), if_pos (by intro t h; cases h), List.take_of_length_le (by omega)]
  | k + 1, i, m + 1, h1, h2 => by
    obtain ⟨x, hx⟩ := get_at (xs := sums) (i := i) (by omega)
    rw [l_ref16_Weights_1_s, cd, if_pos (by omega), nth_of hx, ob, cd, drop_at hx]
    by_cases c : x = []
    · subst c
      rw [if_pos (show ((([] : List Int).length : Nat) : Int) = 0 from rfl), if_neg (fun e => e [] (by simp) rfl)]
    have c' : ¬ x.length = 0 := fun e => c (List.length_eq_zero_iff.1 e)
    have hap : appI 8 (firstsOf (sums.take i)) [hAt x 0] = some (firstsOf (sums.take (i + 1))) := by
      rw [app_of (by omega) (by simp [firstsOf]; omega), take_at hx]
      simp [firstsOf]
    rw [if_neg (by omega), ob, show ((0 : Int) = ((0 : Nat) : Int)) from rfl, nth_of (ne_get c), ob, hap, ob, w64n (by omega), weights1r N sums t t2 t3 hm k (i + 1) m (by omega) (by omega)]
    have : NeR (x :: sums.drop (i + 1)) ↔ NeR (sums.drop (i + 1)) := ⟨fun e t ht => e t (by simp [ht]), fun e t ht => by
      rcases List.mem_cons.1 ht with rfl | ht
      · exact c
      · exact e t ht⟩
    by_cases h5 : NeR (sums.drop (i + 1))
    · rw [if_pos h5, if_pos (this.2 h5)]
    · rw [if_neg h5, if_neg (fun e => h5 (this.1 e))]
theorem rweights_eq (N : Nat) (hN : Fu + 9 ≤ N) (t t2 : List Int) (t3 s : List (List Int)) (h1 : t.length ≤ 9223372036854775807) (h2 : t2.length ≤ 9223372036854775807) (h3 : s.length ≤ 100000) : m_ref16_Weights N (t, t2, t3, s) = some (weightsOf t t2 t3 s) := by
  obtain ⟨N, rfl⟩ : ∃ n, N = n + 1 := ⟨N - 1, by omega⟩
  have e1 := weights1r N s t t2 t3 h3 s.length 0 N (by omega) (by have := Fu_eq; omega)
  rw [List.drop_zero, show firstsOf (s.take 0) = [] from rfl, show (((0 : Nat) : Int) = 0) from rfl] at e1
  unfold weightsOf
  rw [m_ref16_Weights_eq, e1, ob]
  by_cases c1 : ¬ NeR s
  · rw [if_neg c1, if_neg (fun h => c1 h.1)]
  have c1 := Decidable.not_not.1 c1
  have hl : (firstsOf s).length ≤ 9223372036854775807 := by simp [firstsOf]; omega
  rw [if_pos c1]
  simp only
  rw [rbuilds_o N (by omega) t t2 t3 _ h1 h2 hl, ob]
  have hlens := sumOf_lens t t2 t3 (firstsOf s)
  unfold sumOf at *
  by_cases c2 : ¬ SumR t t2 t3 (firstsOf s)
  · rw [if_neg c2, if_neg (fun h => c2 h.2.1)]
    simp
  have c2 := Decidable.not_not.1 c2
  rw [if_pos c2] at hlens ⊢
  simp only [decide_true, Bool.not_true, cond_false]
  rw [lists_eq N (by omega) (sumsOf t2 (firstsOf s)) s (Nat.le_trans hlens.1 (by decide)) (fun x hx => Nat.le_trans (hlens.2 x hx) (by decide)), ob]
  by_cases c3 : sumsOf t2 (firstsOf s) = s
  · rw [if_pos ⟨c1, c2, c3⟩]; simp [c3]
  · rw [if_neg (fun h => c3 h.2.2)]; simp [c3]
end Go.Proofs.Ytiblkkkgajklfaa
/-! Sums' total, both. -/
namespace Go.Proofs.Ytiblkkkgajklfaa
open Go Go.RowKit

def totalOf (t t2 : List Int) (t3 s : List (List Int)) : Int × Int := if SumsR t t2 t3 s then (pre (firstsOf s) (firstsOf s).length, 0) else (0, 1)
theorem weights_zero {t t2 : List Int} {t3 s : List (List Int)} (h : ¬ SumsR t t2 t3 s) : weightsOf t t2 t3 s = [] := if_neg h
theorem weights_pos {t t2 : List Int} {t3 s : List (List Int)} (h : SumsR t t2 t3 s) : weightsOf t t2 t3 s = firstsOf s := if_pos h
/-- one look: what stands in a link, and where it goes -/
theorem look {t t2 : List Int} {t3 s : List (List Int)} (h : SumsR t t2 t3 s) {i l : Nat} (hi : i < t2.length) (hl : (l : Int) < hAt t2 i) :
    (∃ x y : List Int, s[i]? = some x ∧ x[l]? = some (segS (firstsOf s) i (dist t2 i l)) ∧ t3[i]? = some y ∧ y[l]? = some (((i + dist t2 i l) % t2.length : Nat) : Int)) := by
  obtain ⟨h1, h2, h3⟩ := h
  refine ⟨rowS t2 (firstsOf s) i, linksOf t2 i, ?_, rowS_at hl, ?_, map_get _ _ _ (by omega)⟩
  · rw [← sumsOf_at hi, h3]
  · rw [h2.2.1.2]; exact map_get _ _ _ hi
theorem tot2 (N : Nat) (hN : Fu ≤ N) (s : List (List Int)) (head level total v9 : Int) (first : Bool) (t t2 : List Int) (t3 : List (List Int)) :
    l_sum_Total_2 N N (s, head, level, total, v9, first, t, t2, t3) = some (if first = false ∧ v9 = head then .inr total else .inl (s, head, level, total, v9, t, t2, t3)) := by
  obtain ⟨N, rfl⟩ : ∃ n, N = n + 1 := ⟨N - 1, by have := Fu_eq; omega⟩
  rw [l_sum_Total_2_s]
  cases first with
  | true => simp
  | false =>
    rw [cond_false, cdn]
    by_cases e : v9 = head <;> simp [e]
theorem tot1 (N : Nat) (hN : Fu ≤ N) (t t2 : List Int) (t3 s : List (List Int)) (h : SumsR t t2 t3 s) (b : Nat) (L : Nat) (hb : b < t2.length) (hL : hAt t2 b = (L : Int) + 1) (hmax : ∀ i, i < t2.length → hAt t2 i ≤ hAt t2 b) :
    ∀ (f d m : Nat) (first : Bool), d ≤ t2.length → t2.length - d ≤ f → f < m → (first = true ↔ d = 0) → hAt t2 ((b + d) % t2.length) = (L : Int) + 1 →
    l_sum_Total_1 N m (s, (b : Int), (L : Int), segS (firstsOf s) b d, (((b + d) % t2.length : Nat) : Int), first, t, t2, t3) = some (pre (firstsOf s) (firstsOf s).length)
  | f, d, 0, first, h1, h2, h3, h4, h5 => by omega
  | f, d, m + 1, first, h1, h2, h3, h4, h5 => by
    obtain ⟨k1, k2, k3, k4⟩ := sumsR_len h
    have hml := Nat.mod_lt (b + d) k3
    rw [l_sum_Total_1_s, tot2 N hN, ob]
    by_cases c : d = t2.length
    · have e1 : (b + d) % t2.length = b := by rw [c, Nat.add_mod_right, Nat.mod_eq_of_lt hb]
      have e2 : first = false := by
        cases first with
        | false => rfl
        | true => have := h4.1 rfl; omega
      rw [if_pos ⟨e2, by rw [e1]⟩]
      simp only
      rw [c, ← k1, seg_all (by omega)]
    · have e2 : ¬ (first = false ∧ (((b + d) % t2.length : Nat) : Int) = (b : Int)) := fun ⟨e1, e2⟩ => by
        have e3 : d ≠ 0 := fun e => by rw [h4.2 e] at e1; cases e1
        by_cases e4 : b + d < t2.length
        · rw [Nat.mod_eq_of_lt e4] at e2; omega
        · rw [Nat.mod_eq_sub_mod (by omega), Nat.mod_eq_of_lt (by omega)] at e2; omega
      rw [if_neg e2]
      simp only
      obtain ⟨d1, d2, d3, d4⟩ := dist_ok (hs := t2) (h := L) hml (by omega)
      obtain ⟨x, y, g1, g2, g3, g4⟩ := look h (l := L) hml (by omega)
      have hd : d + dist t2 ((b + d) % t2.length) L ≤ t2.length := by
        rcases Nat.lt_or_ge (t2.length - d) (dist t2 ((b + d) % t2.length) L) with e | e
        · have := d4 (t2.length - d) (by omega) e
          rw [Nat.mod_add_mod, show b + d + (t2.length - d) = b + t2.length by omega, Nat.add_mod_right, Nat.mod_eq_of_lt hb] at this
          omega
        · omega
      have hsum := seg_add (firstsOf s) b d (dist t2 ((b + d) % t2.length) L)
      rw [k1] at hsum
      have b1 := seg_le h.2.1.2.2 b (d + dist t2 ((b + d) % t2.length) L)
      have hm2 := hmax _ (Nat.mod_lt ((b + d) % t2.length + dist t2 ((b + d) % t2.length) L) k3)
      rw [nth_of g1, ob, nth_of g2, ob, nth_of g3, ob, nth_of g4, ob, ← hsum, w64 (by omega) (by omega)]
      rw [Nat.mod_add_mod, Nat.add_assoc] at d1 hm2 ⊢
      refine tot1 N hN t t2 t3 s h b L hb hL hmax (f - 1) (d + dist t2 ((b + d) % t2.length) L) m false hd (by omega) (by omega) ⟨(fun e => by cases e), (fun e => by omega)⟩ (by omega)
theorem total_eq (N : Nat) (hN : Fu + 10 ≤ N) (t t2 : List Int) (t3 s : List (List Int)) (h1 : t.length ≤ 9223372036854775807) (h2 : t2.length ≤ 9223372036854775807) (h3 : s.length ≤ 100000) : m_sum_Total N (t, t2, t3, s) = some (totalOf t t2 t3 s) := by
  obtain ⟨N, rfl⟩ : ∃ n, N = n + 1 := ⟨N - 1, by omega⟩
  unfold totalOf
  rw [m_sum_Total_eq, weights_eq N (by omega) t t2 t3 s h1 h2 h3, ob, cd]
  by_cases c : ¬ SumsR t t2 t3 s
  · rw [weights_zero c, if_pos (show ((([] : List Int).length : Nat) : Int) = 0 from rfl), if_neg c]
  have c := Decidable.not_not.1 c
  obtain ⟨k1, k2, k3, k4⟩ := sumsR_len c
  obtain ⟨a, b, e1, e2, e3, e4⟩ := head_ex N (by omega) t2 (by omega) k3
  have hb := high_at c.2.1.2.1.1.2.2.2 e3.lt
  have hx := hAt_get e3.lt
  obtain ⟨L, hL⟩ : ∃ L : Nat, hAt t2 b = (L : Int) + 1 := ⟨(hAt t2 b - 1).toNat, by omega⟩
  have hh : headOf t t2 t3 = (b : Int) := by rw [headOf, if_pos c.2.1.2.1, headN_of e3]
  have := tot1 N (by omega) t t2 t3 s c b L e3.lt hL e3.le t2.length 0 N true (by omega) (by omega) (by have := Fu_eq; omega) (by simp) (by rw [Nat.add_zero, Nat.mod_eq_of_lt e3.lt, hL])
  rw [Nat.add_zero, Nat.mod_eq_of_lt e3.lt, show segS (firstsOf s) b 0 = 0 from rfl] at this
  rw [weights_pos c, if_neg (by omega), head_eq N (by omega) t t2 t3 h1 h2, ob, hh, nth_of hx, ob, hL, show (L : Int) + 1 - 1 = (L : Int) by omega, w64 (by omega) (by omega), this, ob, if_pos c]
theorem rtot1 (N : Nat) (w : List Int) (hw : OddR w) (hm : w.length ≤ 1000) : ∀ (k i m : Nat), i + k = w.length → k < m → l_ref16_Total_1 N m (pre w i, (i : Int), w) = some (pre w w.length)
  | k, i, 0, h1, h2 => by omega
  | 0, i, m + 1, h1, h2 => by
    rw [l_ref16_Total_1_s, cd, if_neg (by omega)]
    have : i = w.length := by omega
    rw [this]
  | k + 1, i, m + 1, h1, h2 => by
    have hx := hAt_get (hs := w) (j := i) (by omega)
    have b1 := pre_le hw i
    have b2 := odd_at hw i
    rw [l_ref16_Total_1_s, cd, if_pos (by omega), nth_of hx, ob, ob, w64n (by omega), w64 (x := pre w i + hAt w i) (by omega) (by omega)]
    exact rtot1 N w hw hm k (i + 1) m (by omega) (by omega)
theorem rtotal_eq (N : Nat) (hN : Fu + 10 ≤ N) (t t2 : List Int) (t3 s : List (List Int)) (h1 : t.length ≤ 9223372036854775807) (h2 : t2.length ≤ 9223372036854775807) (h3 : s.length ≤ 100000) : m_ref16_Total N (t, t2, t3, s) = some (totalOf t t2 t3 s) := by
  obtain ⟨N, rfl⟩ : ∃ n, N = n + 1 := ⟨N - 1, by omega⟩
  unfold totalOf
  rw [m_ref16_Total_eq, rweights_eq N (by omega) t t2 t3 s h1 h2 h3, ob, cd]
  by_cases c : ¬ SumsR t t2 t3 s
  · rw [weights_zero c, if_pos (show ((([] : List Int).length : Nat) : Int) = 0 from rfl), if_neg c]
  have c := Decidable.not_not.1 c
  obtain ⟨k1, k2, k3, k4⟩ := sumsR_len c
  have := rtot1 N (firstsOf s) c.2.1.2.2 (by omega) (firstsOf s).length 0 N (by omega) (by have := Fu_eq; omega)
  rw [show pre (firstsOf s) 0 = 0 from rfl, show (((0 : Nat) : Int) = 0) from rfl] at this
  rw [weights_pos c, if_neg (by omega), this, ob, if_pos c]
end Go.Proofs.Ytiblkkkgajklfaa
/-! What stands between two nodes, both. -/
namespace Go.Proofs.Ytiblkkkgajklfaa
open Go Go.RowKit

def levD (hs : List Int) (i d : Nat) : Nat → Nat
  | 0 => 0
  | h + 1 => if dist hs i (h + 1) ≤ d then h + 1 else levD hs i d h
def levO (hs : List Int) (i d : Nat) : Nat := levD hs i d ((hAt hs i).toNat - 1)
def lookD (hs : List Int) : Nat → Nat → Nat → Nat
  | 0, _, _ => 0
  | f + 1, i, d => if d = 0 then 0 else lookD hs f ((i + dist hs i (levO hs i d)) % hs.length) (d - dist hs i (levO hs i d)) + 1
def dOf (n : Nat) (a b : Int) : Nat := (b.toNat + n - a.toNat) % n
def betweenOf (t t2 : List Int) (t3 s : List (List Int)) (a b : Int) : Int × Int × Int :=
  if SumsR t t2 t3 s then (if 0 ≤ a ∧ a < (t2.length : Int) ∧ 0 ≤ b ∧ b < (t2.length : Int) then (segS (firstsOf s) a.toNat (dOf t2.length a b), ((lookD t2 t2.length a.toNat (dOf t2.length a b) : Nat) : Int), 0) else (0, 0, 6)) else (0, 0, 1)
theorem dOf_ok {n : Nat} {a b : Int} (h1 : 0 ≤ a) (h2 : a < (n : Int)) (h3 : 0 ≤ b) (h4 : b < (n : Int)) : dOf n a b < n ∧ b = (((a.toNat + dOf n a b) % n : Nat) : Int) := by
  unfold dOf
  refine ⟨Nat.mod_lt _ (by omega), ?_⟩
  rw [Nat.add_mod_mod, show a.toNat + (b.toNat + n - a.toNat) = b.toNat + n by omega, Nat.add_mod_right, Nat.mod_eq_of_lt (by omega)]
  omega
theorem levD_ok {hs : List Int} {i d : Nat} (h0 : dist hs i 0 ≤ d) : ∀ h, levD hs i d h ≤ h ∧ dist hs i (levD hs i d h) ≤ d
  | 0 => ⟨Nat.le_refl _, h0⟩
  | h + 1 => by
    rw [levD]
    split
    · rename_i c; exact ⟨Nat.le_refl _, c⟩
    · have := levD_ok h0 h
      exact ⟨by omega, this.2⟩
theorem way_eq (N : Nat) (hN : Fu ≤ N) {n i e : Nat} (hi : i < n) (h1 : 1 ≤ e) (h2 : e ≤ n) (hn : n ≤ 1000) : m_sum_BetweenF1_ph N ((i : Int), (((i + e) % n : Nat) : Int), (n : Int)) = some ((e : Int), (n : Int)) := by
  obtain ⟨N, rfl⟩ : ∃ n, N = n + 1 := ⟨N - 1, by have := Fu_eq; omega⟩
  have hml := Nat.mod_lt (i + e) (show 0 < n by omega)
  have hx : ∃ y : Nat, (((i + e) % n : Nat) : Int) - (i : Int) + (n : Int) - 1 = (y : Int) ∧ y % n = e - 1 := by
    by_cases c : i + e < n
    · rw [Nat.mod_eq_of_lt c]
      exact ⟨e + n - 1, by omega, by rw [show e + n - 1 = (e - 1) + n by omega, Nat.add_mod_right, Nat.mod_eq_of_lt (by omega)]⟩
    · rw [Nat.mod_eq_sub_mod (by omega), Nat.mod_eq_of_lt (by omega)]
      exact ⟨e - 1, by omega, Nat.mod_eq_of_lt (by omega)⟩
  obtain ⟨y, e1, e2⟩ := hx
  rw [m_sum_BetweenF1_ph_eq, w64 (x := (((i + e) % n : Nat) : Int) - (i : Int)) (by omega) (by omega), w64 (x := (((i + e) % n : Nat) : Int) - (i : Int) + (n : Int)) (by omega) (by omega), e1, w64 (by omega) (by omega), rem_of (by omega), tmod_nat, e2, ob, w64n (by omega), show e - 1 + 1 = e by omega]
theorem far_eq (N : Nat) (hN : Fu ≤ N) {n i e : Nat} (hi : i < n) (h2 : e ≤ n) (hn : n ≤ 1000) : m_ref16_far N ((n : Int), (i : Int), (((i + e) % n : Nat) : Int)) = some ((e % n : Nat) : Int) := by
  obtain ⟨N, rfl⟩ : ∃ n, N = n + 1 := ⟨N - 1, by have := Fu_eq; omega⟩
  have hml := Nat.mod_lt (i + e) (show 0 < n by omega)
  have hx : ∃ y : Nat, (((i + e) % n : Nat) : Int) - (i : Int) + (n : Int) = (y : Int) ∧ y % n = e % n := by
    by_cases c : i + e < n
    · rw [Nat.mod_eq_of_lt c]
      exact ⟨e + n, by omega, by rw [Nat.add_mod_right]⟩
    · rw [Nat.mod_eq_sub_mod (by omega), Nat.mod_eq_of_lt (by omega)]
      exact ⟨e, by omega, rfl⟩
  obtain ⟨y, e1, e2⟩ := hx
  rw [m_ref16_far_eq, w64 (x := (((i + e) % n : Nat) : Int) - (i : Int)) (by omega) (by omega), e1, w64 (by omega) (by omega), rem_of (by omega), tmod_nat, e2, ob]
theorem bet2 (N : Nat) (hN : Fu ≤ N) (t t2 : List Int) (t3 s : List (List Int)) (h : SumsR t t2 t3 s) (total looks : Int) (i d : Nat) (hi : i < t2.length) (hd1 : 1 ≤ d) (hd : d ≤ t2.length) : ∀ (l m : Nat), (l : Int) < hAt t2 i → l < m →
    l_sum_Between_2 N m (s, (((i + d) % t2.length : Nat) : Int), total, looks, (i : Int), (l : Int), t, t2, t3, ((t2.length : Nat) : Int)) = some (s, (((i + d) % t2.length : Nat) : Int), total, looks, (i : Int), ((levD t2 i d l : Nat) : Int), t, t2, t3, ((t2.length : Nat) : Int))
  | l, 0, h1, h2 => by omega
  | l, m + 1, h1, h2 => by
    obtain ⟨k1, k2, k3, k4⟩ := sumsR_len h
    obtain ⟨x, y, g1, g2, g3, g4⟩ := look h (l := l) hi h1
    obtain ⟨_, d1, d2, _⟩ := dist_ok hi h1
    rw [l_sum_Between_2_s, nth_of g3, ob, nth_of g4, ob, way_eq N hN hi d1 d2 k4, ob]
    simp only
    rw [way_eq N hN hi hd1 hd k4, ob, cd]
    simp only
    cases l with
    | zero =>
      have := dist_zero h.2.1.2.1.1.2.2.2 hi
      rw [if_neg (by omega)]
      rfl
    | succ l =>
      rw [levD]
      by_cases c : dist t2 i (l + 1) ≤ d
      · rw [if_pos c, if_neg (by omega)]
      · rw [if_neg c, if_pos (by omega), show ((l + 1 : Nat) : Int) - 1 = (l : Int) by omega, w64 (by have := (high_at h.2.1.2.1.1.2.2.2 hi).2; omega) (by have := (high_at h.2.1.2.1.1.2.2.2 hi).2; omega)]
        exact bet2 N hN t t2 t3 s h total looks i d hi hd1 hd l m (by omega) (by omega)
/-- what the walk does at a node -/
theorem step_ok {t t2 : List Int} {t3 s : List (List Int)} (h : SumsR t t2 t3 s) {i d : Nat} (hi : i < t2.length) (hd1 : 1 ≤ d) :
    (levO t2 i d : Int) < hAt t2 i ∧ 1 ≤ dist t2 i (levO t2 i d) ∧ dist t2 i (levO t2 i d) ≤ d := by
  have hb := high_at h.2.1.2.1.1.2.2.2 hi
  have h0 := dist_zero h.2.1.2.1.1.2.2.2 hi
  obtain ⟨a, b⟩ := levD_ok (hs := t2) (i := i) (d := d) (by omega) ((hAt t2 i).toNat - 1)
  have hl : (levO t2 i d : Int) < hAt t2 i := by unfold levO; omega
  obtain ⟨_, d1, _, _⟩ := dist_ok hi hl
  exact ⟨hl, d1, b⟩
theorem mod_self_iff {n i d : Nat} (hi : i < n) (hd : d < n) : ((i : Int) = (((i + d) % n : Nat) : Int)) ↔ d = 0 := by
  constructor
  · intro e
    by_cases c : i + d < n
    · rw [Nat.mod_eq_of_lt c] at e; omega
    · rw [Nat.mod_eq_sub_mod (by omega), Nat.mod_eq_of_lt (by omega)] at e; omega
  · rintro rfl
    rw [Nat.add_zero, Nat.mod_eq_of_lt hi]
theorem bet1 (N : Nat) (hN : Fu + 1 ≤ N) (t t2 : List Int) (t3 s : List (List Int)) (h : SumsR t t2 t3 s) : ∀ (f d i m : Nat) (total : Int) (looks : Nat), d ≤ f → f < m → d < t2.length → i < t2.length → -(1073741824 * (1000 - (d : Int))) ≤ total → total ≤ 1073741824 * (1000 - (d : Int)) → looks + d ≤ 1000 →
    l_sum_Between_1 N m (s, (((i + d) % t2.length : Nat) : Int), total, (looks : Int), (i : Int), t, t2, t3, ((t2.length : Nat) : Int)) = some (total + segS (firstsOf s) i d, ((looks + lookD t2 f i d : Nat) : Int))
  | f, d, i, 0, total, looks, h1, h2, h3, h4, h5, h6, h7 => by omega
  | f, d, i, m + 1, total, looks, h1, h2, h3, h4, h5, h6, h7 => by
    obtain ⟨k1, k2, k3, k4⟩ := sumsR_len h
    rw [l_sum_Between_1_s, cdn]
    by_cases c : d = 0
    · rw [if_pos ((mod_self_iff h4 h3).2 c)]
      subst c
      cases f with
      | zero => simp [segS, lookD]
      | succ f => simp [segS, lookD]
    · obtain ⟨f, rfl⟩ : ∃ g, f = g + 1 := ⟨f - 1, by omega⟩
      have hb := high_at h.2.1.2.1.1.2.2.2 h4
      have hx := hAt_get h4
      obtain ⟨s1, s2, s3⟩ := step_ok h (d := d) h4 (by omega)
      obtain ⟨x, y, g1, g2, g3, g4⟩ := look h (l := levO t2 i d) h4 s1
      have e2 := bet2 N (by omega) t t2 t3 s h total (looks : Int) i d h4 (by omega) (by omega) ((hAt t2 i).toNat - 1) N (by omega) (by have := Fu_eq; omega)
      rw [show levD t2 i d ((hAt t2 i).toNat - 1) = levO t2 i d from rfl, show (((hAt t2 i).toNat - 1 : Nat) : Int) = hAt t2 i - 1 by omega] at e2
      rw [if_neg (fun e => c ((mod_self_iff h4 h3).1 e)), nth_of hx, ob, w64 (x := hAt t2 i - 1) (by omega) (by omega), e2, ob]
      have b1 := seg_le h.2.1.2.2 i (dist t2 i (levO t2 i d))
      have hadd := seg_add (firstsOf s) i (dist t2 i (levO t2 i d)) (d - dist t2 i (levO t2 i d))
      have ih := bet1 N hN t t2 t3 s h f (d - dist t2 i (levO t2 i d)) ((i + dist t2 i (levO t2 i d)) % t2.length) m (total + segS (firstsOf s) i (dist t2 i (levO t2 i d))) (looks + 1) (by omega) (by omega) (by omega) (Nat.mod_lt _ k3) (by omega) (by omega) (by omega)
      rw [Nat.mod_add_mod, Nat.add_assoc, show dist t2 i (levO t2 i d) + (d - dist t2 i (levO t2 i d)) = d by omega] at ih
      rw [k1, show dist t2 i (levO t2 i d) + (d - dist t2 i (levO t2 i d)) = d by omega] at hadd
      simp only [nth_of g1, ob, nth_of g2, nth_of g3, nth_of g4]
      rw [w64n (by omega), w64 (by omega) (by omega), ih, lookD, if_neg c, hadd, Int.add_assoc]
      congr 3
      omega
theorem between_eq (N : Nat) (hN : Fu + 10 ≤ N) (t t2 : List Int) (t3 s : List (List Int)) (a b : Int) (h1 : t.length ≤ 9223372036854775807) (h2 : t2.length ≤ 9223372036854775807) (h3 : s.length ≤ 100000) : m_sum_Between N (t, t2, t3, s, a, b) = some (betweenOf t t2 t3 s a b) := by
  obtain ⟨N, rfl⟩ : ∃ n, N = n + 1 := ⟨N - 1, by omega⟩
  unfold betweenOf
  rw [m_sum_Between_eq, weights_eq N (by omega) t t2 t3 s h1 h2 h3, ob, cd]
  by_cases c : ¬ SumsR t t2 t3 s
  · rw [weights_zero c, if_pos (show ((([] : List Int).length : Nat) : Int) = 0 from rfl), if_neg c]
  have c := Decidable.not_not.1 c
  obtain ⟨k1, k2, k3, k4⟩ := sumsR_len c
  rw [weights_pos c, if_neg (by omega), if_pos c, cd, cd]
  by_cases c2 : 0 ≤ a ∧ a < (t2.length : Int) ∧ 0 ≤ b ∧ b < (t2.length : Int)
  · obtain ⟨a1, a2, a3, a4⟩ := c2
    obtain ⟨d1, d2⟩ := dOf_ok a1 a2 a3 a4
    have e1 := bet1 N (by omega) t t2 t3 s c t2.length (dOf t2.length a b) a.toNat N 0 0 (by omega) (by have := Fu_eq; omega) d1 (by omega) (by omega) (by omega) (by omega)
    rw [← d2, Int.toNat_of_nonneg a1, Nat.zero_add, Int.zero_add, show (((0 : Nat) : Int) = 0) from rfl] at e1
    rw [if_neg (by split <;> omega), if_neg (by split <;> omega), if_pos ⟨a1, a2, a3, a4⟩, ← k2, e1, ob]
  · rw [if_neg c2]
    by_cases c3 : (if b < a then b else a) < 0
    · rw [if_pos c3]
    · rw [if_neg c3, if_pos (by
        split at c3 <;> split <;> omega)]
theorem rbet1 (N : Nat) (t t2 w : List Int) (t3 : List (List Int)) (n a d : Nat) (hl : w.length = n) (hw : OddR w) (h1000 : n ≤ 1000) (ha : a < n) (hd : d < n) : ∀ (q e m : Nat), e + q = d → q < m →
    l_ref16_Between_1 N m ((a : Int), (((a + d) % n : Nat) : Int), (n : Int), segS w a e, (((a + e) % n : Nat) : Int), t, t2, t3, w) = some ((a : Int), (((a + d) % n : Nat) : Int), (n : Int), segS w a d, t, t2, t3)
  | q, e, 0, h1, h2 => by omega
  | q, e, m + 1, h1, h2 => by
    have hml := Nat.mod_lt (a + e) (show 0 < n by omega)
    rw [l_ref16_Between_1_s, cdn]
    cases q with
    | zero =>
      have : e = d := by omega
      subst this
      rw [if_pos rfl]
    | succ q =>
      have hne : (a + e) % n ≠ (a + d) % n := by
        rcases Nat.eq_zero_or_pos e with h | h
        · subst h
          have := mod_self_iff ha hd
          rw [Nat.add_zero, Nat.mod_eq_of_lt ha]
          intro hh
          have := this.1 (by omega)
          omega
        · exact mod_ne ha h (by omega) (by omega)
      have hx := hAt_get (hs := w) (j := (a + e) % n) (by omega)
      have b1 := seg_le hw a e
      have b2 := odd_at hw ((a + e) % n)
      have e1 : ((a + e) % n + 1) % n = (a + (e + 1)) % n := by rw [Nat.mod_add_mod]; rfl
      have e2 : segS w a e + hAt w ((a + e) % n) = segS w a (e + 1) := by rw [segS, hl]
      rw [if_neg (by omega), nth_of hx, ob, ob, w64n (by omega), rem_of (by omega), tmod_nat, ob, w64 (x := segS w a e + _) (by omega) (by omega), e1, e2]
      exact rbet1 N t t2 w t3 n a d hl hw h1000 ha hd q (e + 1) m (by omega) (by omega)
theorem rbet3 (N : Nat) (hN : Fu ≤ N) (t t2 : List Int) (t3 s : List (List Int)) (h : SumsR t t2 t3 s) (sum looks : Int) (i d : Nat) (hi : i < t2.length) (hd1 : 1 ≤ d) (hd : d < t2.length) : ∀ (l m : Nat), (l : Int) < hAt t2 i → l < m →
    ∃ (n' i' i2 i3 : Int) (t3' : List (List Int)) (y : List Int) (h' a1 a2 n2 to2 a3 : Int) (b : Bool), l_ref16_Between_3 N m ((((i + d) % t2.length : Nat) : Int), ((t2.length : Nat) : Int), sum, looks, (i : Int), (l : Int), t, t2, t3) = some ((((i + d) % t2.length : Nat) : Int), ((t2.length : Nat) : Int), sum, looks, (i : Int), ((levD t2 i d l : Nat) : Int), n', i', t3', i2, y, h', a1, a2, n2, i3, to2, a3, b, t, t2, t3)
  | l, 0, h1, h2 => by omega
  | l, m + 1, h1, h2 => by
    obtain ⟨k1, k2, k3, k4⟩ := sumsR_len h
    obtain ⟨x, y, g1, g2, g3, g4⟩ := look h (l := l) hi h1
    obtain ⟨_, d1, d2, _⟩ := dist_ok hi h1
    rw [l_ref16_Between_3_s, nth_of g3, ob, nth_of g4, ob, far_eq N hN hi d2 k4, ob, cd]
    simp only [nth_of g3, nth_of g4, ob, far_eq N hN hi d2 k4, far_eq N hN hi (show d ≤ t2.length by omega) k4, cd]
    have hdd : d % t2.length = d := Nat.mod_eq_of_lt hd
    by_cases c : dist t2 i l ≤ d
    · have e1 : dist t2 i l % t2.length = dist t2 i l := Nat.mod_eq_of_lt (by omega)
      rw [e1, hdd, if_neg (by omega), if_neg (by omega)]
      have : levD t2 i d l = l := by
        cases l with
        | zero => rfl
        | succ l => rw [levD, if_pos c]
      rw [this]
      exact ⟨_, _, _, _, _, _, _, _, _, _, _, _, _, rfl⟩
    · cases l with
      | zero =>
        have := dist_zero h.2.1.2.1.1.2.2.2 hi
        omega
      | succ l =>
        have ih := rbet3 N hN t t2 t3 s h sum looks i d hi hd1 hd l m (by omega) (by omega)
        have hb := (high_at h.2.1.2.1.1.2.2.2 hi).2
        rw [levD, if_neg c, show ((l + 1 : Nat) : Int) - 1 = (l : Int) by omega, w64 (by omega) (by omega)]
        by_cases c2 : dist t2 i (l + 1) = t2.length
        · rw [c2, Nat.mod_self, if_pos (by omega)]
          exact ih
        · have e1 : dist t2 i (l + 1) % t2.length = dist t2 i (l + 1) := Nat.mod_eq_of_lt (by omega)
          rw [e1, hdd, if_neg (by omega), if_pos (by omega)]
          exact ih
theorem rbet2 (N : Nat) (hN : Fu + 1 ≤ N) (t t2 : List Int) (t3 s : List (List Int)) (h : SumsR t t2 t3 s) (sum : Int) : ∀ (f d i m : Nat) (looks : Nat), d ≤ f → f < m → d < t2.length → i < t2.length → looks + d ≤ 1000 →
    l_ref16_Between_2 N m ((((i + d) % t2.length : Nat) : Int), ((t2.length : Nat) : Int), sum, (looks : Int), (i : Int), t, t2, t3) = some (sum, ((looks + lookD t2 f i d : Nat) : Int))
  | f, d, i, 0, looks, h1, h2, h3, h4, h7 => by omega
  | f, d, i, m + 1, looks, h1, h2, h3, h4, h7 => by
    obtain ⟨k1, k2, k3, k4⟩ := sumsR_len h
    rw [l_ref16_Between_2_s, cdn]
    by_cases c : d = 0
    · rw [if_pos ((mod_self_iff h4 h3).2 c)]
      subst c
      cases f with
      | zero => simp [lookD]
      | succ f => simp [lookD]
    · obtain ⟨f, rfl⟩ : ∃ g, f = g + 1 := ⟨f - 1, by omega⟩
      have hb := high_at h.2.1.2.1.1.2.2.2 h4
      have hx := hAt_get h4
      obtain ⟨s1, s2, s3⟩ := step_ok h (d := d) h4 (by omega)
      obtain ⟨x, y, g1, g2, g3, g4⟩ := look h (l := levO t2 i d) h4 s1
      obtain ⟨j1, j2, j3, j4, j5, j6, j7, j8, j9, j10, j11, j12, j13, e2⟩ := rbet3 N (by omega) t t2 t3 s h sum (looks : Int) i d h4 (by omega) (by omega) ((hAt t2 i).toNat - 1) N (by omega) (by have := Fu_eq; omega)
      rw [show levD t2 i d ((hAt t2 i).toNat - 1) = levO t2 i d from rfl, show (((hAt t2 i).toNat - 1 : Nat) : Int) = hAt t2 i - 1 by omega] at e2
      rw [if_neg (fun e => c ((mod_self_iff h4 h3).1 e)), nth_of hx, ob, w64 (x := hAt t2 i - 1) (by omega) (by omega), e2, ob]
      have ih := rbet2 N hN t t2 t3 s h sum f (d - dist t2 i (levO t2 i d)) ((i + dist t2 i (levO t2 i d)) % t2.length) m (looks + 1) (by omega) (by omega) (by omega) (Nat.mod_lt _ k3) (by omega)
      rw [Nat.mod_add_mod, Nat.add_assoc, show dist t2 i (levO t2 i d) + (d - dist t2 i (levO t2 i d)) = d by omega] at ih
      simp only [nth_of g3, ob, nth_of g4]
      rw [w64n (by omega), ih, lookD, if_neg c]
      congr 3
      omega
theorem rbetween_eq (N : Nat) (hN : Fu + 10 ≤ N) (t t2 : List Int) (t3 s : List (List Int)) (a b : Int) (h1 : t.length ≤ 9223372036854775807) (h2 : t2.length ≤ 9223372036854775807) (h3 : s.length ≤ 100000) : m_ref16_Between N (t, t2, t3, s, a, b) = some (betweenOf t t2 t3 s a b) := by
  obtain ⟨N, rfl⟩ : ∃ n, N = n + 1 := ⟨N - 1, by omega⟩
  unfold betweenOf
  rw [m_ref16_Between_eq, rweights_eq N (by omega) t t2 t3 s h1 h2 h3, ob, cd]
  by_cases c : ¬ SumsR t t2 t3 s
  · rw [weights_zero c, if_pos (show ((([] : List Int).length : Nat) : Int) = 0 from rfl), if_neg c]
  have c := Decidable.not_not.1 c
  obtain ⟨k1, k2, k3, k4⟩ := sumsR_len c
  rw [weights_pos c, if_neg (by omega), if_pos c, cd, cd, cd, cd, k1]
  by_cases c1 : a < 0
  · rw [if_pos c1, if_neg (by omega)]
  rw [if_neg c1]
  by_cases c2 : (t2.length : Int) ≤ a
  · rw [if_pos c2, if_neg (by omega)]
  rw [if_neg c2]
  by_cases c3 : b < 0
  · rw [if_pos c3, if_neg (by omega)]
  rw [if_neg c3]
  by_cases c4 : (t2.length : Int) ≤ b
  · rw [if_pos c4, if_neg (by omega)]
  rw [if_neg c4, if_pos ⟨by omega, by omega, by omega, by omega⟩]
  obtain ⟨d1, d2⟩ := dOf_ok (n := t2.length) (a := a) (b := b) (by omega) (by omega) (by omega) (by omega)
  have e1 := rbet1 N t t2 (firstsOf s) t3 t2.length a.toNat (dOf t2.length a b) k1 c.2.1.2.2 k4 (by omega) d1 (dOf t2.length a b) 0 N (by omega) (by have := Fu_eq; omega)
  have e2 := rbet2 N (by omega) t t2 t3 s c (segS (firstsOf s) a.toNat (dOf t2.length a b)) t2.length (dOf t2.length a b) a.toNat N 0 (by omega) (by have := Fu_eq; omega) d1 (by omega) (by omega)
  rw [← d2, Int.toNat_of_nonneg (by omega), Nat.add_zero, Nat.mod_eq_of_lt (by omega), Int.toNat_of_nonneg (by omega), show segS (firstsOf s) a.toNat 0 = 0 from rfl] at e1
  rw [← d2, Int.toNat_of_nonneg (by omega), Nat.zero_add, show (((0 : Nat) : Int) = 0) from rfl] at e2
  rw [e1, ob]
  simp only
  rw [e2, ob]
end Go.Proofs.Ytiblkkkgajklfaa
/-! Changes, both. -/
namespace Go.Proofs.Ytiblkkkgajklfaa
open Go Go.RowKit

def setAll : List Int → List Int → List Int → List Int
  | w, p :: ps, x :: xs => setAll (w.set p.toNat x) ps xs
  | w, _, _ => w
def PlR (n : Nat) (ps : List Int) : Prop := ∀ p ∈ ps, 0 ≤ p ∧ p < (n : Int)
instance (n : Nat) (ps : List Int) : Decidable (PlR n ps) := by unfold PlR; exact inferInstance
def difL : List Int → List Int → Nat
  | a :: ra, b :: rb => (if a = b then 0 else 1) + difL ra rb
  | _, _ => 0
def difS : List (List Int) → List (List Int) → Nat
  | a :: ra, b :: rb => difL a b + difS ra rb
  | _, _ => 0
def changeOf (t t2 : List Int) (t3 s : List (List Int)) (ps ws : List Int) : Int × Int × List (List Int) :=
  if SumsR t t2 t3 s ∧ ps.length = ws.length ∧ OddR ws then (if PlR t2.length ps then (((difS (sumsOf t2 (setAll (firstsOf s) ps ws)) s : Nat) : Int), 0, sumsOf t2 (setAll (firstsOf s) ps ws)) else (0, 6, [])) else (0, 1, [])
theorem setAll_len : ∀ (ps xs w : List Int), (setAll w ps xs).length = w.length
  | [], xs, w => by simp [setAll]
  | p :: ps, [], w => by simp [setAll]
  | p :: ps, x :: xs, w => by rw [setAll, setAll_len]; simp
theorem odd_set {w : List Int} (h : OddR w) {x : Int} (hx : -1073741824 ≤ x ∧ x ≤ 1073741824) (i : Nat) : OddR (w.set i x) := fun y hy => by
  rcases List.mem_or_eq_of_mem_set hy with e | e
  · exact h y e
  · subst e; exact hx
theorem setAll_odd : ∀ (ps xs w : List Int), OddR w → OddR xs → OddR (setAll w ps xs)
  | [], xs, w, h, _ => by simpa [setAll] using h
  | p :: ps, [], w, h, _ => by simpa [setAll] using h
  | p :: ps, x :: xs, w, h, h2 => by
    rw [setAll]
    exact setAll_odd ps xs _ (odd_set h (h2 x (by simp)) _) (fun y hy => h2 y (by simp [hy]))
theorem pl_cons {n : Nat} {p : Int} {ps : List Int} (h : 0 ≤ p ∧ p < (n : Int)) : PlR n (p :: ps) ↔ PlR n ps := ⟨fun e t ht => e t (by simp [ht]), fun e t ht => by
  rcases List.mem_cons.1 ht with rfl | ht
  · exact h
  · exact e t ht⟩
theorem ch1 (N : Nat) (t t2 ps ws : List Int) (t3 s : List (List Int)) (hl : ps.length = ws.length) (hm : ps.length ≤ 1000000) : ∀ (k i m : Nat) (w : List Int), w.length ≤ 1000000 → i + k = ps.length → k < m →
    l_sum_Change_1 N m (s, ws, ps, ((ps.length : Nat) : Int), (i : Int), t, t2, t3, w) = some (if PlR w.length (ps.drop i) then .inl (s, t, t2, t3, setAll w (ps.drop i) (ws.drop i)) else .inr (0, 6))
  | k, i, 0, w, hw, h1, h2 => by omega
  | 0, i, m + 1, w, hw, h1, h2 => by
    rw [l_sum_Change_1_s, cd, if_neg (by omega), List.drop_eq_nil_of_le (by omega), if_pos (by intro t h; cases h)]
    simp [setAll]
  | k + 1, i, m + 1, w, hw, h1, h2 => by
    obtain ⟨p, hp⟩ := get_at (xs := ps) (i := i) (by omega)
    obtain ⟨x, hx⟩ := get_at (xs := ws) (i := i) (by omega)
    rw [l_sum_Change_1_s, cd, if_pos (by omega), nth_of hp, ob, cd, drop_at hp, drop_at hx]
    by_cases c1 : p < 0
    · rw [if_pos c1, if_neg (fun e => by have := e p (by simp); omega)]
    rw [if_neg c1, cd]
    by_cases c2 : (w.length : Int) ≤ p
    · rw [if_pos c2, if_neg (fun e => by have := e p (by simp); omega)]
    obtain ⟨y, hy⟩ := get_at (xs := w) (i := p.toNat) (by omega)
    rw [if_neg c2, nth_of hx, ob, nth_at hy (by omega), ob, ob, w64n (by omega), ch1 N t t2 ps ws t3 s hl hm k (i + 1) m _ (by simpa using hw) (by omega) (by omega), List.length_set, setAll]
    by_cases c3 : PlR w.length (ps.drop (i + 1))
    · rw [if_pos c3, if_pos ((pl_cons ⟨by omega, by omega⟩).2 c3)]
    · rw [if_neg c3, if_neg (fun e => c3 ((pl_cons ⟨by omega, by omega⟩).1 e))]
theorem rch2 (N : Nat) (t t2 ps ws : List Int) (t3 s : List (List Int)) (hl : ps.length = ws.length) (hm : ps.length ≤ 1000000) : ∀ (k i m : Nat) (w : List Int), w.length ≤ 1000000 → i + k = ps.length → k < m →
    l_ref16_Change_2 N m (s, ps, ws, (i : Int), t, t2, t3, w) = some (if PlR w.length (ps.drop i) then .inl (s, t, t2, t3, setAll w (ps.drop i) (ws.drop i)) else .inr (0, 6))
  | k, i, 0, w, hw, h1, h2 => by omega
  | 0, i, m + 1, w, hw, h1, h2 => by
    rw [l_ref16_Change_2_s, cd, if_neg (by omega), List.drop_eq_nil_of_le (by omega), if_pos (by intro t h; cases h)]
    simp [setAll]
  | k + 1, i, m + 1, w, hw, h1, h2 => by
    obtain ⟨p, hp⟩ := get_at (xs := ps) (i := i) (by omega)
    obtain ⟨x, hx⟩ := get_at (xs := ws) (i := i) (by omega)
    rw [l_ref16_Change_2_s, cd, if_pos (by omega), nth_of hp, ob, cd, drop_at hp, drop_at hx]
    by_cases c1 : p < 0
    · rw [if_pos c1, if_neg (fun e => by have := e p (by simp); omega)]
    rw [if_neg c1, ob, cd]
    by_cases c2 : (w.length : Int) ≤ p
    · rw [if_pos c2, if_neg (fun e => by have := e p (by simp); omega)]
    obtain ⟨y, hy⟩ := get_at (xs := w) (i := p.toNat) (by omega)
    rw [if_neg c2, ob, nth_of hx, ob, nth_at hy (by omega), ob, ob, w64n (by omega), rch2 N t t2 ps ws t3 s hl hm k (i + 1) m _ (by simpa using hw) (by omega) (by omega), List.length_set, setAll]
    by_cases c3 : PlR w.length (ps.drop (i + 1))
    · rw [if_pos c3, if_pos ((pl_cons ⟨by omega, by omega⟩).2 c3)]
    · rw [if_neg c3, if_neg (fun e => c3 ((pl_cons ⟨by omega, by omega⟩).1 e))]
theorem rch1 (N : Nat) (hN : Fu ≤ N) (t t2 ps ws w : List Int) (t3 s : List (List Int)) (hm : ws.length ≤ 1000000) : ∀ (k i m : Nat), i + k = ws.length → k < m →
    l_ref16_Change_1 N m (s, ps, ws, (i : Int), t, t2, t3, w) = some (if OddR (ws.drop i) then .inl (s, ps, ws, t, t2, t3, w) else .inr (0, 1))
  | k, i, 0, h1, h2 => by omega
  | 0, i, m + 1, h1, h2 => by
    rw [l_ref16_Change_1_s, cd, if_neg (by omega), List.drop_eq_nil_of_le (by omega), if_pos (by intro t h; cases h)]
  | k + 1, i, m + 1, h1, h2 => by
    obtain ⟨x, hx⟩ := get_at (xs := ws) (i := i) (by omega)
    rw [l_ref16_Change_1_s, cd, if_pos (by omega), nth_of hx, ob, rmay_eq N hN, ob, cdn, drop_at hx]
    by_cases c1 : -1073741824 ≤ x ∧ x ≤ 1073741824
    · rw [if_pos c1, w64n (by omega), rch1 N hN t t2 ps ws w t3 s hm k (i + 1) m (by omega) (by omega)]
      have : OddR (x :: ws.drop (i + 1)) ↔ OddR (ws.drop (i + 1)) := ⟨fun e t ht => e t (by simp [ht]), fun e t ht => by
        rcases List.mem_cons.1 ht with rfl | ht
        · exact c1
        · exact e t ht⟩
      by_cases h5 : OddR (ws.drop (i + 1))
      · rw [if_pos h5, if_pos (this.2 h5)]
      · rw [if_neg h5, if_neg (fun e => h5 (this.1 e))]
    · rw [if_neg c1, if_neg (fun e => c1 (e x (by simp)))]
theorem ch3 (N : Nat) (s out : List (List Int)) (v68 v69 : Int) (row srow : List Int) (j : Nat) (hs : s[j]? = some srow) (hl : row.length = srow.length) (h8 : row.length ≤ 8) : ∀ (k h m o : Nat), h + k = row.length → k < m → o ≤ 100000 + h →
    l_sum_Change_3 N m (s, (o : Int), (j : Int), v68, v69, row, ((row.length : Nat) : Int), (h : Int), out) = some (s, ((o + difL (row.drop h) (srow.drop h) : Nat) : Int), v68, v69, out)
  | k, h, 0, o, h1, h2, h3 => by omega
  | 0, h, m + 1, o, h1, h2, h3 => by
    rw [l_sum_Change_3_s, cd, if_neg (by omega), List.drop_eq_nil_of_le (by omega)]
    simp [difL]
  | k + 1, h, m + 1, o, h1, h2, h3 => by
    obtain ⟨x, hx⟩ := get_at (xs := row) (i := h) (by omega)
    obtain ⟨y, hy⟩ := get_at (xs := srow) (i := h) (by omega)
    rw [l_sum_Change_3_s, cd, if_pos (by omega), nth_of hx, ob, nth_of hs, ob, nth_of hy, ob, cdn, drop_at hx, drop_at hy, difL, w64n (by omega), w64n (by omega)]
    by_cases c : x = y
    · rw [if_pos c, if_pos c, ch3 N s out v68 v69 row srow j hs hl h8 k (h + 1) m o (by omega) (by omega) (by omega), Nat.zero_add]
    · rw [if_neg c, if_neg c, ch3 N s out v68 v69 row srow j hs hl h8 k (h + 1) m (o + 1) (by omega) (by omega) (by omega), Nat.add_assoc]
theorem difL_le : ∀ a b : List Int, difL a b ≤ a.length
  | [], _ => by simp [difL]
  | a :: ra, [] => by simp [difL]
  | a :: ra, b :: rb => by
    have := difL_le ra rb
    rw [difL, List.length_cons]
    split <;> omega
/-- alike in shape -/
def Alike (out s : List (List Int)) : Prop := out.length = s.length ∧ ∀ (j : Nat) (x y : List Int), out[j]? = some x → s[j]? = some y → x.length = y.length ∧ x.length ≤ 8
theorem ch2 (N : Nat) (hN : Fu ≤ N) (s out : List (List Int)) (ha : Alike out s) (h1000 : out.length ≤ 1000) : ∀ (k j m o : Nat), j + k = out.length → k < m → o ≤ 8 * j →
    l_sum_Change_2 N m (s, (o : Int), ((out.length : Nat) : Int), (j : Int), out) = some (((o + difS (out.drop j) (s.drop j) : Nat) : Int), out)
  | k, j, 0, o, h1, h2, h3 => by omega
  | 0, j, m + 1, o, h1, h2, h3 => by
    rw [l_sum_Change_2_s, cd, if_neg (by omega), List.drop_eq_nil_of_le (by omega)]
    simp [difS]
  | k + 1, j, m + 1, o, h1, h2, h3 => by
    obtain ⟨hl, ha2⟩ := ha
    obtain ⟨x, hx⟩ := get_at (xs := out) (i := j) (by omega)
    obtain ⟨y, hy⟩ := get_at (xs := s) (i := j) (by omega)
    obtain ⟨q1, q2⟩ := ha2 j x y hx hy
    have hd := difL_le x y
    have e3 := ch3 N s out ((out.length : Nat) : Int) (j : Int) x y j hy q1 q2 x.length 0 N o (by omega) (by have := Fu_eq; omega) (by omega)
    rw [List.drop_zero, List.drop_zero, show (((0 : Nat) : Int) = 0) from rfl] at e3
    rw [l_sum_Change_2_s, cd, if_pos (by omega), nth_of hx, ob, ob, e3, ob, drop_at hx, drop_at hy, difS]
    simp only
    rw [w64n (by omega), ch2 N hN s out ⟨hl, ha2⟩ h1000 k (j + 1) m (o + difL x y) (by omega) (by omega) (by omega), Nat.add_assoc]
theorem rch4 (N : Nat) (s out : List (List Int)) (e : Int) (row srow : List Int) (j : Nat) (hs : s[j]? = some srow) (ho : out[j]? = some row) (hl : row.length = srow.length) (h8 : row.length ≤ 8) : ∀ (k h m o : Nat), h + k = row.length → k < m → o ≤ 100000 + h →
    l_ref16_Change_4 N m (s, e, (o : Int), (j : Int), (h : Int), out) = some (s, e, ((o + difL (row.drop h) (srow.drop h) : Nat) : Int), (j : Int), out)
  | k, h, 0, o, h1, h2, h3 => by omega
  | 0, h, m + 1, o, h1, h2, h3 => by
    rw [l_ref16_Change_4_s, nth_of ho, ob, ob, cd, if_neg (by omega), List.drop_eq_nil_of_le (by omega)]
    simp [difL]
  | k + 1, h, m + 1, o, h1, h2, h3 => by
    obtain ⟨x, hx⟩ := get_at (xs := row) (i := h) (by omega)
    obtain ⟨y, hy⟩ := get_at (xs := srow) (i := h) (by omega)
    rw [l_ref16_Change_4_s, nth_of ho, ob, ob, cd, if_pos (by omega), ob, ob, nth_of hx, ob, nth_of hs, ob, nth_of hy, ob, cdn, drop_at hx, drop_at hy, difL, w64n (by omega), w64n (by omega)]
    by_cases c : x = y
    · rw [if_pos c, if_pos c, rch4 N s out e row srow j hs ho hl h8 k (h + 1) m o (by omega) (by omega) (by omega), Nat.zero_add]
    · rw [if_neg c, if_neg c, rch4 N s out e row srow j hs ho hl h8 k (h + 1) m (o + 1) (by omega) (by omega) (by omega), Nat.add_assoc]
theorem rch3 (N : Nat) (hN : Fu ≤ N) (s out : List (List Int)) (e : Int) (ha : Alike out s) (h1000 : out.length ≤ 1000) : ∀ (k j m o : Nat), j + k = out.length → k < m → o ≤ 8 * j →
    l_ref16_Change_3 N m (s, e, (o : Int), (j : Int), out) = some (e, ((o + difS (out.drop j) (s.drop j) : Nat) : Int), out)
  | k, j, 0, o, h1, h2, h3 => by omega
  | 0, j, m + 1, o, h1, h2, h3 => by
    rw [l_ref16_Change_3_s, cd, if_neg (by omega), List.drop_eq_nil_of_le (by omega)]
    simp [difS]
  | k + 1, j, m + 1, o, h1, h2, h3 => by
    obtain ⟨hl, ha2⟩ := ha
    obtain ⟨x, hx⟩ := get_at (xs := out) (i := j) (by omega)
    obtain ⟨y, hy⟩ := get_at (xs := s) (i := j) (by omega)
    obtain ⟨q1, q2⟩ := ha2 j x y hx hy
    have hd := difL_le x y
    have e3 := rch4 N s out e x y j hy hx q1 q2 x.length 0 N o (by omega) (by have := Fu_eq; omega) (by omega)
    rw [List.drop_zero, List.drop_zero, show (((0 : Nat) : Int) = 0) from rfl] at e3
    rw [l_ref16_Change_3_s, cd, if_pos (by omega), e3, ob, drop_at hx, drop_at hy, difS]
    simp only
    rw [w64n (by omega), rch3 N hN s out e ⟨hl, ha2⟩ h1000 k (j + 1) m (o + difL x y) (by omega) (by omega) (by omega), Nat.add_assoc]
theorem alike_sums {hs : List Int} (hh : HighR hs) (w v : List Int) : Alike (sumsOf hs w) (sumsOf hs v) := by
  refine ⟨by simp [sumsOf], fun j x y hx hy => ?_⟩
  have hj : j < hs.length := by
    have := (List.getElem?_eq_some_iff.1 hx).1
    simpa [sumsOf] using this
  rw [sumsOf_at hj] at hx hy
  cases hx; cases hy
  have := high_at hh hj
  rw [rowS_len, rowS_len]
  omega
theorem change_new {t t2 : List Int} {t3 s : List (List Int)} {ps ws : List Int} (h : SumsR t t2 t3 s) (hw : OddR ws) : SumR t t2 t3 (setAll (firstsOf s) ps ws) :=
  ⟨by rw [setAll_len]; exact h.2.1.1, h.2.1.2.1, setAll_odd _ _ _ h.2.1.2.2 hw⟩
theorem change_eq (N : Nat) (hN : Fu + 10 ≤ N) (t t2 : List Int) (t3 s : List (List Int)) (ps ws : List Int) (h1 : t.length ≤ 9223372036854775807) (h2 : t2.length ≤ 9223372036854775807) (h3 : s.length ≤ 100000) (h4 : ps.length ≤ 100000) (h5 : ws.length ≤ 1000000) : m_sum_Change N (t, t2, t3, s, ps, ws) = some (changeOf t t2 t3 s ps ws) := by
  obtain ⟨N, rfl⟩ : ∃ n, N = n + 1 := ⟨N - 1, by omega⟩
  unfold changeOf
  rw [m_sum_Change_eq, weights_eq N (by omega) t t2 t3 s h1 h2 h3, ob, cd]
  by_cases c : ¬ SumsR t t2 t3 s
  · rw [weights_zero c, if_pos (show ((([] : List Int).length : Nat) : Int) = 0 from rfl), if_neg (fun h => c h.1)]
  have c := Decidable.not_not.1 c
  obtain ⟨k1, k2, k3, k4⟩ := sumsR_len c
  rw [weights_pos c, if_neg (by omega), cdn]
  by_cases c2 : ¬ ps.length = ws.length
  · rw [if_neg (by omega), if_neg (fun h => c2 h.2.1)]
  have c2 := Decidable.not_not.1 c2
  rw [if_pos (by omega), soddf_eq N (by omega) ws (by omega), ob]
  by_cases c3 : ¬ OddR ws
  · rw [if_neg (fun h => c3 h.2.2)]
    simp [c3]
  have c3 := Decidable.not_not.1 c3
  rw [if_pos ⟨c, c2, c3⟩]
  simp only [c3, decide_true, Bool.not_true, cond_false]
  have e1 := ch1 N t t2 ps ws t3 s c2 (by omega) ps.length 0 N (firstsOf s) (by omega) (by omega) (by have := Fu_eq; omega)
  rw [List.drop_zero, List.drop_zero, show (((0 : Nat) : Int) = 0) from rfl, k1] at e1
  rw [e1, ob]
  by_cases c4 : ¬ PlR t2.length ps
  · rw [if_neg c4, if_neg c4]
  have c4 := Decidable.not_not.1 c4
  rw [if_pos c4, if_pos c4]
  simp only
  have hn := change_new (ps := ps) c c3
  have hl := setAll_len ps ws (firstsOf s)
  have hal : Alike (sumsOf t2 (setAll (firstsOf s) ps ws)) s := by
    have := alike_sums c.2.1.2.1.1.2.2.2 (setAll (firstsOf s) ps ws) (firstsOf s)
    rw [c.2.2] at this
    exact this
  have hol : (sumsOf t2 (setAll (firstsOf s) ps ws)).length = t2.length := by simp [sumsOf]
  have e2 := ch2 N (by omega) s _ hal (by omega) t2.length 0 N 0 (by omega) (by have := Fu_eq; omega) (by omega)
  rw [List.drop_zero, List.drop_zero, show (((0 : Nat) : Int) = 0) from rfl, Nat.zero_add] at e2
  rw [sbuild_o_eq N (by omega) t t2 t3 _ h1 h2 (by omega), ob, sumOf, if_pos hn]
  simp only
  rw [e2, ob]
theorem rchange_eq (N : Nat) (hN : Fu + 10 ≤ N) (t t2 : List Int) (t3 s : List (List Int)) (ps ws : List Int) (h1 : t.length ≤ 9223372036854775807) (h2 : t2.length ≤ 9223372036854775807) (h3 : s.length ≤ 100000) (h4 : ps.length ≤ 100000) (h5 : ws.length ≤ 1000000) : m_ref16_Change N (t, t2, t3, s, ps, ws) = some (changeOf t t2 t3 s ps ws) := by
  obtain ⟨N, rfl⟩ : ∃ n, N = n + 1 := ⟨N - 1, by omega⟩
  unfold changeOf
  rw [m_ref16_Change_eq, rweights_eq N (by omega) t t2 t3 s h1 h2 h3, ob, cd]
  by_cases c : ¬ SumsR t t2 t3 s
  · rw [weights_zero c, if_pos (show ((([] : List Int).length : Nat) : Int) = 0 from rfl), if_neg (fun h => c h.1)]
  have c := Decidable.not_not.1 c
  obtain ⟨k1, k2, k3, k4⟩ := sumsR_len c
  rw [weights_pos c, if_neg (by omega), cdn]
  by_cases c2 : ¬ ps.length = ws.length
  · rw [if_neg (by omega), if_neg (fun h => c2 h.2.1)]
  have c2 := Decidable.not_not.1 c2
  have e0 := rch1 N (by omega) t t2 ps ws (firstsOf s) t3 s h5 ws.length 0 N (by omega) (by have := Fu_eq; omega)
  rw [List.drop_zero, show (((0 : Nat) : Int) = 0) from rfl] at e0
  rw [if_pos (by omega), e0, ob]
  by_cases c3 : ¬ OddR ws
  · rw [if_neg c3, if_neg (fun h => c3 h.2.2)]
  have c3 := Decidable.not_not.1 c3
  rw [if_pos c3, if_pos ⟨c, c2, c3⟩]
  have e1 := rch2 N t t2 ps ws t3 s c2 (by omega) ps.length 0 N (firstsOf s) (by omega) (by omega) (by have := Fu_eq; omega)
  rw [List.drop_zero, List.drop_zero, show (((0 : Nat) : Int) = 0) from rfl, k1] at e1
  simp only
  rw [e1, ob]
  by_cases c4 : ¬ PlR t2.length ps
  · rw [if_neg c4, if_neg c4]
  have c4 := Decidable.not_not.1 c4
  rw [if_pos c4, if_pos c4]
  simp only
  have hn := change_new (ps := ps) c c3
  have hl := setAll_len ps ws (firstsOf s)
  have hal : Alike (sumsOf t2 (setAll (firstsOf s) ps ws)) s := by
    have := alike_sums c.2.1.2.1.1.2.2.2 (setAll (firstsOf s) ps ws) (firstsOf s)
    rw [c.2.2] at this
    exact this
  have hol : (sumsOf t2 (setAll (firstsOf s) ps ws)).length = t2.length := by simp [sumsOf]
  have e2 := rch3 N (by omega) s _ 0 hal (by omega) t2.length 0 N 0 (by omega) (by have := Fu_eq; omega) (by omega)
  rw [List.drop_zero, List.drop_zero, show (((0 : Nat) : Int) = 0) from rfl, Nat.zero_add] at e2
  rw [rbuilds_o N (by omega) t t2 t3 _ h1 h2 (by omega), ob, sumOf, if_pos hn]
  simp only
  rw [e2, ob]
end Go.Proofs.Ytiblkkkgajklfaa
/-! The fixed fact. -/
namespace Go.Proofs.Ytiblkkkgajklfaa
open Go Go.RowKit

theorem alive_g1 : buildOf [5, 6, 7, 8] [1, 3, 1, 2] = (0, [5, 6, 7, 8], [1, 3, 1, 2], [[1], [2, 3, 1], [3], [0, 1]]) := by decide +kernel
theorem alive_g2 : sumOf [5, 6, 7, 8] [1, 3, 1, 2] [[1], [2, 3, 1], [3], [0, 1]] [1, 2, 3, 4] = (0, [[1], [2, 5, 10], [3], [4, 5]]) := by decide +kernel
theorem alive_g3 : totalOf [5, 6, 7, 8] [1, 3, 1, 2] [[1], [2, 3, 1], [3], [0, 1]] [[1], [2, 5, 10], [3], [4, 5]] = (10, 0) := by decide +kernel
theorem alive_g4 : betweenOf [5, 6, 7, 8] [1, 3, 1, 2] [[1], [2, 3, 1], [3], [0, 1]] [[1], [2, 5, 10], [3], [4, 5]] 1 0 = (9, 2, 0) := by decide +kernel
theorem alive_g5 : changeOf [5, 6, 7, 8] [1, 3, 1, 2] [[1], [2, 3, 1], [3], [0, 1]] [[1], [2, 5, 10], [3], [4, 5]] [2] [10] = (3, 0, [[1], [2, 12, 17], [10], [4, 5]]) := by decide +kernel
theorem alive_g6 : betweenOf [5, 6, 7, 8] [1, 3, 1, 2] [[1], [2, 3, 1], [3], [0, 1]] [[1], [2, 5, 10], [3], [4, 5]] 0 4 = (0, 0, 6) := by decide +kernel
theorem alive_g7 : sumOf [5, 6, 7, 8] [1, 3, 1, 2] [[1], [2, 3, 1], [3], [0, 1]] [1] = (1, []) := by decide +kernel
theorem alive_g8 : weightsOf [5, 6, 7, 8] [1, 3, 1, 2] [[1], [2, 3, 1], [3], [0, 1]] [[1], [2, 12, 17], [10], [4, 5]] = [1, 2, 10, 4] := by decide +kernel
theorem alive_k1 (N : Nat) (hN : Fu + 10 ≤ N) : m_ref14_Build N ([5, 6, 7, 8], [1, 3, 1, 2]) = some (0, [5, 6, 7, 8], [1, 3, 1, 2], [[1], [2, 3, 1], [3], [0, 1]]) := by
  rw [rbuild_eq N (by omega) _ _ (by simp) (by simp), alive_g1]
theorem alive_k2 (N : Nat) (hN : Fu + 10 ≤ N) : m_sum_Build_o N ([5, 6, 7, 8], [1, 3, 1, 2], [[1], [2, 3, 1], [3], [0, 1]], [1, 2, 3, 4]) = some (0, [[1], [2, 5, 10], [3], [4, 5]], [1, 2, 3, 4]) := by
  rw [sbuild_o_eq N (by omega) _ _ _ _ (by simp) (by simp) (by simp), alive_g2]
theorem alive_k3 (N : Nat) (hN : Fu + 10 ≤ N) : m_sum_Total N ([5, 6, 7, 8], [1, 3, 1, 2], [[1], [2, 3, 1], [3], [0, 1]], [[1], [2, 5, 10], [3], [4, 5]]) = some (10, 0) := by
  rw [total_eq N (by omega) _ _ _ _ (by simp) (by simp) (by simp), alive_g3]
theorem alive_k4 (N : Nat) (hN : Fu + 10 ≤ N) : m_sum_Between N ([5, 6, 7, 8], [1, 3, 1, 2], [[1], [2, 3, 1], [3], [0, 1]], [[1], [2, 5, 10], [3], [4, 5]], 1, 0) = some (9, 2, 0) := by
  rw [between_eq N (by omega) _ _ _ _ _ _ (by simp) (by simp) (by simp), alive_g4]
theorem alive_k5 (N : Nat) (hN : Fu + 10 ≤ N) : m_sum_Change N ([5, 6, 7, 8], [1, 3, 1, 2], [[1], [2, 3, 1], [3], [0, 1]], [[1], [2, 5, 10], [3], [4, 5]], [2], [10]) = some (3, 0, [[1], [2, 12, 17], [10], [4, 5]]) := by
  rw [change_eq N (by omega) _ _ _ _ _ _ (by simp) (by simp) (by simp) (by simp) (by simp), alive_g5]
theorem alive_k6 (N : Nat) (hN : Fu + 10 ≤ N) : m_sum_Between N ([5, 6, 7, 8], [1, 3, 1, 2], [[1], [2, 3, 1], [3], [0, 1]], [[1], [2, 5, 10], [3], [4, 5]], 0, 4) = some (0, 0, 6) := by
  rw [between_eq N (by omega) _ _ _ _ _ _ (by simp) (by simp) (by simp), alive_g6]
theorem alive_k7 (N : Nat) (hN : Fu + 10 ≤ N) : m_sum_Build_o N ([5, 6, 7, 8], [1, 3, 1, 2], [[1], [2, 3, 1], [3], [0, 1]], [1]) = some (1, [], [1]) := by
  rw [sbuild_o_eq N (by omega) _ _ _ _ (by simp) (by simp) (by simp), alive_g7]
theorem alive_k8 (N : Nat) (hN : Fu + 10 ≤ N) : m_sum_Weights N ([5, 6, 7, 8], [1, 3, 1, 2], [[1], [2, 3, 1], [3], [0, 1]], [[1], [2, 12, 17], [10], [4, 5]]) = some [1, 2, 10, 4] := by
  rw [weights_eq N (by omega) _ _ _ _ (by simp) (by simp) (by simp), alive_g8]
theorem ints_self (N : Nat) (hN : Fu + 1 ≤ N) (a : List Int) (h : a.length ≤ 100) : m_ref01_Ints N (a, a) = some true := by
  rw [ints_eq N hN a a (by omega)]; simp
theorem alive_eq (N : Nat) (hN : Fu + 11 ≤ N) : m_law16_alive N () = some true := by
  obtain ⟨N, rfl⟩ : ∃ n, N = n + 1 := ⟨N - 1, by omega⟩
  rw [m_law16_alive_eq, alive_k1 N (by omega), ob]
  simp only
  rw [alive_k2 N (by omega), ob, alive_k7 N (by omega)]
  simp only
  rw [alive_k3 N (by omega), ob, alive_k4 N (by omega), ob, alive_k5 N (by omega), ob, alive_k6 N (by omega), ob, ob]
  simp only [nthI, ob]
  have i1 := ints_self N (by omega) [2, 5, 10] (by simp)
  have i2 := ints_self N (by omega) [4, 5] (by simp)
  have i3 := ints_self N (by omega) [2, 12, 17] (by simp)
  have i4 := ints_self N (by omega) [1, 2, 10, 4] (by simp)
  have k8 := alive_k8 N (by omega)
  simp [ob, i1, i2, i3, i4, k8]
end Go.Proofs.Ytiblkkkgajklfaa
/-! Too great ones; the laws SumAnswers and SumBuilds, told plainly. -/
namespace Go.Proofs.Ytiblkkkgajklfaa
open Go Go.RowKit

theorem great_loop (N : Nat) (most : Int) (t t2 : List Int) (t3 : List (List Int)) (hm : t3.length ≤ 9223372036854775807) : ∀ (k i m : Nat) (n : Int), i + k = t3.length → k < m → ∃ r, l_ref14_Great_1 N m (most, n, (i : Int), t, t2, t3) = some r
  | k, i, 0, n, h1, h2 => by omega
  | 0, i, m + 1, n, h1, h2 => by
    rw [l_ref14_Great_1_s, cd, if_neg (by omega)]
    exact ⟨_, rfl⟩
  | k + 1, i, m + 1, n, h1, h2 => by
    obtain ⟨x, hx⟩ := get_at (xs := t3) (i := i) (by omega)
    rw [l_ref14_Great_1_s, cd, if_pos (by omega), cd]
    by_cases h : n ≤ most
    · rw [if_pos h, nth_of hx, ob, w64n (by omega)]
      exact great_loop N most t t2 t3 hm k (i + 1) m _ (by omega) (by omega)
    · rw [if_neg h]
      exact ⟨_, rfl⟩
theorem great_ex (N : Nat) (hN : Fu + 1 ≤ N) (most : Int) (t t2 : List Int) (t3 : List (List Int)) (hm : t3.length ≤ 9223372036854775807) : ∃ b, m_ref14_Great N (t, t2, t3, most) = some b := by
  obtain ⟨N, rfl⟩ : ∃ n, N = n + 1 := ⟨N - 1, by omega⟩
  obtain ⟨r, hr⟩ := great_loop N most t t2 t3 hm t3.length 0 N (IntKind.wrap .i64 ((IntKind.wrap .i64 ((((List.length t) : Nat) : Int) + (((List.length t2) : Nat) : Int))) + (((List.length t3) : Nat) : Int))) (by omega) (by have := Fu_eq; omega)
  rw [m_ref14_Great_eq, show ((0 : Int) = ((0 : Nat) : Int)) from rfl, hr]
  exact ⟨_, rfl⟩
theorem sgreat_loop (N : Nat) (most : Int) (s : List (List Int)) (hm : s.length ≤ 9223372036854775807) : ∀ (k i m : Nat) (n : Int), i + k = s.length → k < m → ∃ r, l_ref16_Great_1 N m (s, most, n, (i : Int)) = some (most, r) ∧ (most < n → r = n)
  | k, i, 0, n, h1, h2 => by omega
  | 0, i, m + 1, n, h1, h2 => by
    rw [l_ref16_Great_1_s, cd, if_neg (by omega)]
    exact ⟨_, rfl, fun _ => rfl⟩
  | k + 1, i, m + 1, n, h1, h2 => by
    obtain ⟨x, hx⟩ := get_at (xs := s) (i := i) (by omega)
    rw [l_ref16_Great_1_s, cd, if_pos (by omega), cd]
    by_cases h : n ≤ most
    · rw [if_pos h, nth_of hx, ob, w64n (by omega)]
      obtain ⟨r, h3, _⟩ := sgreat_loop N most s hm k (i + 1) m (IntKind.wrap .i64 (n + ((x.length : Nat) : Int))) (by omega) (by omega)
      exact ⟨r, h3, fun h4 => by omega⟩
    · rw [if_neg h]
      exact ⟨_, rfl, fun _ => rfl⟩
theorem sgreat_ex (N : Nat) (hN : Fu + 1 ≤ N) (s : List (List Int)) (hm : s.length ≤ 9223372036854775807) : ∃ b, m_ref16_Great N (s, 200) = some b ∧ (b = false → s.length ≤ 200) := by
  obtain ⟨N, rfl⟩ : ∃ n, N = n + 1 := ⟨N - 1, by omega⟩
  obtain ⟨r, hr, h2⟩ := sgreat_loop N 200 s hm s.length 0 N ((s.length : Nat) : Int) (by omega) (by have := Fu_eq; omega)
  rw [m_ref16_Great_eq, show ((0 : Int) = ((0 : Nat) : Int)) from rfl, hr]
  refine ⟨_, rfl, fun h => ?_⟩
  by_cases h3 : (200 : Int) < ((s.length : Nat) : Int)
  · rw [h2 h3] at h
    simp only [decide_eq_false_iff_not] at h
    omega
  · omega
theorem lgreat_ex (N : Nat) (hN : Fu + 2 ≤ N) (t t2 : List Int) (t3 s : List (List Int)) (h3 : t3.length ≤ 9223372036854775807) (hm : s.length ≤ 9223372036854775807) : ∃ b, m_law16_great N (t, t2, t3, s) = some b ∧ (b = false → s.length ≤ 200) := by
  obtain ⟨N, rfl⟩ : ∃ n, N = n + 1 := ⟨N - 1, by omega⟩
  obtain ⟨a, ha⟩ := great_ex N (by omega) 200 t t2 t3 h3
  obtain ⟨b, hb, h4⟩ := sgreat_ex N (by omega) s hm
  rw [m_law16_great_eq, ha, ob]
  cases a with
  | true => exact ⟨_, rfl, fun e => by cases e⟩
  | false =>
    rw [cond_false, hb]
    exact ⟨_, rfl, h4⟩
theorem weightsOf_len (t t2 : List Int) (t3 s : List (List Int)) : (weightsOf t t2 t3 s).length ≤ s.length := by
  unfold weightsOf
  split
  · simp [firstsOf]
  · simp
theorem sumAnswers_eq (N : Nat) (hN : Fu + 12 ≤ N) (t t2 : List Int) (t3 s : List (List Int)) (a b : Int) (h1 : t.length ≤ 9223372036854775807) (h2 : t2.length ≤ 9223372036854775807) (h3 : t3.length ≤ 9223372036854775807) (h4 : s.length ≤ 9223372036854775807) : m_law16_SumAnswers N (t, t2, t3, s, a, b) = some true := by
  obtain ⟨N, rfl⟩ : ∃ n, N = n + 1 := ⟨N - 1, by omega⟩
  obtain ⟨g, hg, hs⟩ := lgreat_ex N (by omega) t t2 t3 s h3 h4
  rw [m_law16_SumAnswers_eq, alive_eq N (by omega), ob]
  simp only [Bool.not_true, cond_false]
  rw [hg, ob]
  cases g with
  | true => rfl
  | false =>
    have hs := hs rfl
    have hl := weightsOf_len t t2 t3 s
    rw [cond_false, total_eq N (by omega) t t2 t3 s h1 h2 (by omega), rtotal_eq N (by omega) t t2 t3 s h1 h2 (by omega), between_eq N (by omega) t t2 t3 s a b h1 h2 (by omega), rbetween_eq N (by omega) t t2 t3 s a b h1 h2 (by omega), weights_eq N (by omega) t t2 t3 s h1 h2 (by omega), rweights_eq N (by omega) t t2 t3 s h1 h2 (by omega)]
    simp only [ob]
    rw [ints_eq N (by omega) _ _ (by omega)]
    simp [ob]
theorem changeOf_lens (t t2 : List Int) (t3 s : List (List Int)) (ps ws : List Int) : (changeOf t t2 t3 s ps ws).2.2.length ≤ 1000 ∧ ∀ x ∈ (changeOf t t2 t3 s ps ws).2.2, x.length ≤ 8 := by
  unfold changeOf
  split
  · rename_i h
    split
    · have := sumOf_lens t t2 t3 (setAll (firstsOf s) ps ws)
      rwa [sumOf, if_pos (change_new h.1 h.2.2)] at this
    · exact ⟨by simp, fun x hx => by cases hx⟩
  · exact ⟨by simp, fun x hx => by cases hx⟩
theorem lists_same (N : Nat) (hN : Fu + 2 ≤ N) (a : List (List Int)) (h : a.length ≤ 1000 ∧ ∀ x ∈ a, x.length ≤ 8) : m_ref14_Lists N (a, a) = some true := by
  rw [lists_eq N hN a a (Nat.le_trans h.1 (by decide)) (fun x hx => Nat.le_trans (h.2 x hx) (by decide))]
  simp
theorem sumBuilds_eq (N : Nat) (hN : Fu + 12 ≤ N) (t t2 : List Int) (t3 : List (List Int)) (w : List Int) (s : List (List Int)) (ps ws : List Int) (h1 : t.length ≤ 9223372036854775807) (h2 : t2.length ≤ 9223372036854775807) (h3 : t3.length ≤ 9223372036854775807) (h4 : s.length ≤ 9223372036854775807) : m_law16_SumBuilds N (t, t2, t3, w, s, ps, ws) = some true := by
  obtain ⟨N, rfl⟩ : ∃ n, N = n + 1 := ⟨N - 1, by omega⟩
  obtain ⟨g, hg, hs⟩ := lgreat_ex N (by omega) t t2 t3 s h3 h4
  rw [m_law16_SumBuilds_eq, alive_eq N (by omega), ob]
  simp only [Bool.not_true, cond_false]
  rw [hg, ob]
  cases g with
  | true => rfl
  | false =>
    have hs := hs rfl
    rw [cond_false, cd]
    by_cases c1 : (200 : Int) < ((w.length : Nat) : Int)
    · rw [if_pos c1]
    rw [if_neg c1, cd]
    by_cases c2 : (30 : Int) < ((ps.length : Nat) : Int)
    · rw [if_pos c2]
    rw [if_neg c2, cd]
    by_cases c3 : (30 : Int) < ((ws.length : Nat) : Int)
    · rw [if_pos c3]
    rw [if_neg c3, sbuild_eq N (by omega) t t2 t3 w h1 h2 (by omega), rbuilds N (by omega) t t2 t3 w h1 h2 (by omega), change_eq N (by omega) t t2 t3 s ps ws h1 h2 (by omega) (by omega) (by omega), rchange_eq N (by omega) t t2 t3 s ps ws h1 h2 (by omega) (by omega) (by omega)]
    simp only [ob, lists_same N (by omega) _ (sumOf_lens t t2 t3 w), lists_same N (by omega) _ (changeOf_lens t t2 t3 s ps ws)]
    simp
end Go.Proofs.Ytiblkkkgajklfaa
/-! Sums: what the laws SumParts, SumLast and SumAdds need, told plainly. -/
namespace Go.Proofs.Ytiblkkkgajklfaa
open Go Go.RowKit

theorem dOf_nat {n a b : Nat} (ha : a < n) (hb : b < n) : dOf n (a : Int) (b : Int) = if a ≤ b then b - a else b + n - a := by
  unfold dOf
  rw [Int.toNat_natCast, Int.toNat_natCast]
  by_cases h : a ≤ b
  · rw [if_pos h, Nat.mod_eq_sub_mod (by omega), Nat.mod_eq_of_lt (by omega)]; omega
  · rw [if_neg h, Nat.mod_eq_of_lt (by omega)]
theorem dOf_to {n a b : Nat} (ha : a < n) (hb : b < n) : (a + dOf n (a : Int) (b : Int)) % n = b := by
  rw [dOf_nat ha hb]
  by_cases h : a ≤ b
  · rw [if_pos h, Nat.mod_eq_of_lt (by omega)]; omega
  · rw [if_neg h, Nat.mod_eq_sub_mod (by omega), Nat.mod_eq_of_lt (by omega)]; omega
theorem dOf_self {n a : Nat} (ha : a < n) : dOf n (a : Int) (a : Int) = 0 := by
  rw [dOf_nat ha ha, if_pos (Nat.le_refl _)]; omega
theorem seg_round {w : List Int} {a b : Nat} (ha : a < w.length) (hb : b < w.length) (h : a ≠ b) : segS w a (dOf w.length (a : Int) (b : Int)) + segS w b (dOf w.length (b : Int) (a : Int)) = pre w w.length := by
  have := seg_add w a (dOf w.length (a : Int) (b : Int)) (dOf w.length (b : Int) (a : Int))
  rw [dOf_to ha hb] at this
  rw [← this, ← seg_all ha]
  congr 1
  rw [dOf_nat ha hb, dOf_nat hb ha]
  split <;> split <;> omega
theorem seg_part {w : List Int} {a b c : Nat} (ha : a < w.length) (hb : b < w.length) (hc : c < w.length) : segS w a (dOf w.length (a : Int) (c : Int)) + segS w c (dOf w.length (c : Int) (b : Int)) = segS w a (dOf w.length (a : Int) (b : Int)) + (if dOf w.length (a : Int) (c : Int) ≤ dOf w.length (a : Int) (b : Int) then 0 else pre w w.length) := by
  have e1 := seg_add w a (dOf w.length (a : Int) (c : Int)) (dOf w.length (c : Int) (b : Int))
  rw [dOf_to ha hc] at e1
  rw [← e1]
  by_cases h : dOf w.length (a : Int) (c : Int) ≤ dOf w.length (a : Int) (b : Int)
  · rw [if_pos h, Int.add_zero]
    congr 1
    rw [dOf_nat ha hb, dOf_nat ha hc] at h
    rw [dOf_nat ha hb, dOf_nat ha hc, dOf_nat hc hb]
    split at h <;> split at h <;> split <;> split <;> omega
  · rw [if_neg h]
    have e2 := seg_add w a (dOf w.length (a : Int) (b : Int)) w.length
    rw [dOf_to ha hb, seg_all hb] at e2
    rw [← e2]
    congr 1
    rw [dOf_nat ha hb, dOf_nat ha hc] at h
    rw [dOf_nat ha hb, dOf_nat ha hc, dOf_nat hc hb]
    split at h <;> split at h <;> split <;> split <;> omega
theorem lookD_le (hs : List Int) : ∀ f i d, lookD hs f i d ≤ f
  | 0, _, _ => Nat.le_refl _
  | f + 1, i, d => by
    rw [lookD]
    split
    · omega
    · exact Nat.succ_le_succ (lookD_le hs f _ _)
theorem difL_self : ∀ a : List Int, difL a a = 0
  | [] => rfl
  | x :: a => by rw [difL, if_pos rfl, difL_self a]
theorem difS_self : ∀ a : List (List Int), difS a a = 0
  | [] => rfl
  | x :: a => by rw [difS, difL_self, difS_self a]
theorem difL_zero : ∀ a b : List Int, a.length = b.length → difL a b = 0 → a = b
  | [], [], _, _ => rfl
  | x :: a, y :: b, h, h2 => by
    rw [difL] at h2
    by_cases c : x = y
    · rw [c, difL_zero a b (by simpa using h) (by rw [if_pos c] at h2; omega)]
    · rw [if_neg c] at h2; omega
theorem difS_zero : ∀ a b : List (List Int), Alike a b → difS a b = 0 → a = b
  | [], [], _, _ => rfl
  | [], y :: b, h, _ => by have := h.1; simp at this
  | x :: a, [], h, _ => by have := h.1; simp at this
  | x :: a, y :: b, h, h2 => by
    rw [difS] at h2
    rw [difL_zero x y (h.2 0 x y rfl rfl).1 (by omega), difS_zero a b ⟨by have := h.1; simpa using this, fun j u v hu hv => h.2 (j + 1) u v (by simpa using hu) (by simpa using hv)⟩ (by omega)]
theorem hAt_add (v w : List Int) (h : v.length = w.length) (j : Nat) : hAt (List.zipWith (· + ·) v w) j = hAt v j + hAt w j := by
  unfold hAt
  rw [List.getD_eq_getElem?_getD, List.getD_eq_getElem?_getD, List.getD_eq_getElem?_getD, List.getElem?_zipWith]
  by_cases c : j < v.length
  · rw [List.getElem?_eq_getElem c, List.getElem?_eq_getElem (show j < w.length by omega)]; rfl
  · rw [List.getElem?_eq_none (by omega), List.getElem?_eq_none (show w.length ≤ j by omega)]; rfl
theorem seg_adds (v w : List Int) (h : v.length = w.length) (i : Nat) : ∀ d, segS (List.zipWith (· + ·) v w) i d = segS v i d + segS w i d
  | 0 => rfl
  | d + 1 => by
    have hl : (List.zipWith (· + ·) v w).length = v.length := by simp [List.length_zipWith]; omega
    rw [segS, segS, segS, seg_adds v w h i d, hAt_add v w h, hl, ← h]; omega
end Go.Proofs.Ytiblkkkgajklfaa
/-! The laws SumParts, SumLast and SumAdds, told plainly. -/
namespace Go.Proofs.Ytiblkkkgajklfaa
open Go Go.RowKit

theorem ints_self' (N : Nat) (hN : Fu + 1 ≤ N) (a : List Int) (h : a.length ≤ 100000) : m_ref01_Ints N (a, a) = some true := by
  rw [ints_eq N hN a a (by omega)]; simp
theorem between_of {t t2 : List Int} {t3 : List (List Int)} {w : List Int} (h : SumR t t2 t3 w) {a b : Nat} (ha : a < w.length) (hb : b < w.length) :
    betweenOf t t2 t3 (sumsOf t2 w) (a : Int) (b : Int) = (segS w a (dOf w.length (a : Int) (b : Int)), ((lookD t2 w.length a (dOf w.length (a : Int) (b : Int)) : Nat) : Int), 0) := by
  have hl := towerR_len h.2.1
  have hw : t2.length = w.length := by have := h.1; omega
  rw [betweenOf, if_pos (sumsR_of h), hw, if_pos ⟨by omega, by omega, by omega, by omega⟩, firsts_sums h, Int.toNat_natCast]
theorem total_of {t t2 : List Int} {t3 : List (List Int)} {w : List Int} (h : SumR t t2 t3 w) : totalOf t t2 t3 (sumsOf t2 w) = (pre w w.length, 0) := by
  rw [totalOf, if_pos (sumsR_of h), firsts_sums h]
theorem sumsOf_len (hs w : List Int) : (sumsOf hs w).length = hs.length := by simp [sumsOf]
theorem far_of {n a c : Nat} (ha : a < n) (hc : c < n) (hn : n ≤ 1000) : remI (IntKind.wrap .i64 (IntKind.wrap .i64 ((c : Int) - (a : Int)) + (n : Int))) (n : Int) = some ((dOf n (a : Int) (c : Int) : Nat) : Int) := by
  rw [w64 (x := (c : Int) - (a : Int)) (by omega) (by omega), show (c : Int) - (a : Int) + (n : Int) = ((c + n - a : Nat) : Int) by omega, w64 (by omega) (by omega), rem_of (by omega), tmod_nat]
  rfl
theorem sumParts_eq (N : Nat) (hN : Fu + 12 ≤ N) (t t2 : List Int) (t3 : List (List Int)) (w : List Int) (p q r : Int) (h1 : t.length ≤ 9223372036854775807) (h2 : t2.length ≤ 9223372036854775807) (h3 : t3.length ≤ 9223372036854775807) (hp : 0 ≤ p ∧ p ≤ 255) (hq : 0 ≤ q ∧ q ≤ 255) (hr : 0 ≤ r ∧ r ≤ 255) : m_law16_SumParts N (t, t2, t3, w, p, q, r) = some true := by
  obtain ⟨N, rfl⟩ : ∃ n, N = n + 2 := ⟨N - 2, by omega⟩
  obtain ⟨g, hg⟩ := great_ex (N + 1) (by omega) 200 t t2 t3 h3
  rw [m_law16_SumParts_eq, alive_eq (N + 1) (by omega), ob, Bool.not_true, cond_false, hg, ob]
  cases g with
  | true => rfl
  | false =>
    rw [cond_false, cd]
    by_cases k1 : (200 : Int) < ((w.length : Nat) : Int)
    · rw [if_pos k1]
    rw [if_neg k1, sbuild_eq (N + 1) (by omega) t t2 t3 w h1 h2 (by omega), ob, sumOf]
    by_cases c : ¬ SumR t t2 t3 w
    · rw [if_neg c]; rfl
    have c := Decidable.not_not.1 c
    obtain ⟨l1, l2, l3⟩ := towerR_len c.2.1
    have hwl := c.1
    have hsl := sumsOf_len t2 w
    obtain ⟨p, rfl⟩ : ∃ n : Nat, p = (n : Int) := ⟨p.toNat, by omega⟩
    obtain ⟨q, rfl⟩ : ∃ n : Nat, q = (n : Int) := ⟨q.toNat, by omega⟩
    obtain ⟨r, rfl⟩ : ∃ n : Nat, r = (n : Int) := ⟨r.toNat, by omega⟩
    have hn : 0 < w.length := by omega
    have ha := Nat.mod_lt p hn
    have hb := Nat.mod_lt q hn
    have hc := Nat.mod_lt r hn
    have b1 := between_of c ha hb
    have b2 := between_of c hb ha
    have b3 := between_of c ha ha
    have b4 := between_of c ha hc
    have b5 := between_of c hc hb
    have f1 := far_of ha hc (by omega)
    have f2 := far_of ha hb (by omega)
    have s1 := seg_le c.2.2 (p % w.length) (dOf w.length ((p % w.length : Nat) : Int) ((q % w.length : Nat) : Int))
    have s2 := seg_le c.2.2 (q % w.length) (dOf w.length ((q % w.length : Nat) : Int) ((p % w.length : Nat) : Int))
    have s4 := seg_le c.2.2 (p % w.length) (dOf w.length ((p % w.length : Nat) : Int) ((r % w.length : Nat) : Int))
    have s5 := seg_le c.2.2 (r % w.length) (dOf w.length ((r % w.length : Nat) : Int) ((q % w.length : Nat) : Int))
    have s6 := pre_le c.2.2 w.length
    have d1 := Nat.mod_lt (((q % w.length : Nat) : Int).toNat + w.length - ((p % w.length : Nat) : Int).toNat) hn
    have d2 := Nat.mod_lt (((p % w.length : Nat) : Int).toNat + w.length - ((q % w.length : Nat) : Int).toNat) hn
    have d4 := Nat.mod_lt (((r % w.length : Nat) : Int).toNat + w.length - ((p % w.length : Nat) : Int).toNat) hn
    have d5 := Nat.mod_lt (((q % w.length : Nat) : Int).toNat + w.length - ((r % w.length : Nat) : Int).toNat) hn
    change dOf w.length ((p % w.length : Nat) : Int) ((q % w.length : Nat) : Int) < w.length at d1
    change dOf w.length ((q % w.length : Nat) : Int) ((p % w.length : Nat) : Int) < w.length at d2
    change dOf w.length ((p % w.length : Nat) : Int) ((r % w.length : Nat) : Int) < w.length at d4
    change dOf w.length ((r % w.length : Nat) : Int) ((q % w.length : Nat) : Int) < w.length at d5
    have lk := lookD_le t2 w.length (p % w.length) (dOf w.length ((p % w.length : Nat) : Int) ((q % w.length : Nat) : Int))
    have kr := seg_round ha hb
    have kp := seg_part ha hb hc
    have ks := dOf_self ha
    have kd1 : p % w.length = q % w.length → dOf w.length ((p % w.length : Nat) : Int) ((q % w.length : Nat) : Int) = 0 := fun h => by rw [← h]; exact dOf_self ha
    have kd2 : p % w.length = q % w.length → dOf w.length ((q % w.length : Nat) : Int) ((p % w.length : Nat) : Int) = 0 := fun h => by rw [← h]; exact dOf_self ha
    rw [if_pos c]
    simp only [decide_true, Bool.not_true, cond_false]
    rw [← hwl, w64 (x := (p : Int)) (by omega) (by omega), w64 (x := (q : Int)) (by omega) (by omega), w64 (x := (r : Int)) (by omega) (by omega), rem_of (by omega), tmod_nat, ob, rem_of (by omega), tmod_nat, ob, rem_of (by omega), tmod_nat, ob, total_eq (N + 1) (by omega) t t2 t3 _ h1 h2 (by omega), total_of c, ob,
      between_eq (N + 1) (by omega) t t2 t3 _ _ _ h1 h2 (by omega), b1, ob, between_eq (N + 1) (by omega) t t2 t3 _ _ _ h1 h2 (by omega), b2, ob, between_eq (N + 1) (by omega) t t2 t3 _ _ _ h1 h2 (by omega), b3, ob]
    simp only
    generalize dOf w.length ((p % w.length : Nat) : Int) ((q % w.length : Nat) : Int) = D1 at *
    generalize dOf w.length ((q % w.length : Nat) : Int) ((p % w.length : Nat) : Int) = D2 at *
    generalize dOf w.length ((p % w.length : Nat) : Int) ((r % w.length : Nat) : Int) = D4 at *
    generalize dOf w.length ((r % w.length : Nat) : Int) ((q % w.length : Nat) : Int) = D5 at *
    generalize p % w.length = a at *
    generalize q % w.length = b at *
    generalize r % w.length = e at *
    have hz : segS w a (dOf w.length (a : Int) (a : Int)) = 0 := by rw [ks]; rfl
    have hj : l_law16_SumParts_1 (N + 1) (N + 1) (((w.length : Nat) : Int), (a : Int), (b : Int), (e : Int), pre w w.length, 0, segS w a D1, ((lookD t2 w.length a D1 : Nat) : Int), 0, segS w b D2, 0, segS w a (dOf w.length (a : Int) (a : Int)), 0, t, t2, t3, sumsOf t2 w) = some (.inr (((w.length : Nat) : Int), (a : Int), (b : Int), (e : Int), pre w w.length, segS w a D1, t, t2, t3, sumsOf t2 w)) := by
      rw [l_law16_SumParts_1_s, hz]
      simp only [decide_true, Bool.not_true, cond_false]
      rw [cd, if_neg (by omega), cdn]
      by_cases h : a = b
      · have z1 := kd1 h
        have z2 := kd2 h
        subst h
        subst z1
        subst z2
        rw [if_pos rfl, cd, if_pos rfl, cdn, if_pos (by rw [show segS w a 0 = 0 from rfl]; exact w64 (by omega) (by omega))]
      · rw [if_neg (by omega), cdn, if_pos (by rw [w64 (by omega) (by omega)]; exact kr h), cd, if_neg (by omega)]
    rw [hj, ob]
    simp only
    rw [between_eq (N + 1) (by omega) t t2 t3 _ _ _ h1 h2 (by omega), b4, ob, between_eq (N + 1) (by omega) t t2 t3 _ _ _ h1 h2 (by omega), b5, ob]
    simp only [decide_true, Bool.not_true, cond_false]
    rw [f1, ob, f2, ob, cd]
    by_cases h : D4 ≤ D1
    · rw [if_pos (by omega), w64 (by omega) (by omega), kp, if_pos h, Int.add_zero, decide_eq_true rfl]
    · rw [if_neg (by omega), w64 (by omega) (by omega), w64 (by omega) (by omega), kp, if_neg h, decide_eq_true rfl]
theorem last_loop (N : Nat) (n : Int) (t t2 ps ws : List Int) (t3 c s u : List (List Int)) (hl : ps.length = ws.length) (hm : ps.length ≤ 1000000) : ∀ (k i m : Nat) (w : List Int), PlR w.length ps → i + k = ps.length → k < m →
    l_law16_SumLast_1 N m (n, (i : Int), t, t2, t3, c, ps, ws, s, u, w) = some (n, t, t2, t3, s, u, setAll w (ps.drop i) (ws.drop i))
  | k, i, 0, w, hw, h1, h2 => by omega
  | 0, i, m + 1, w, hw, h1, h2 => by
    rw [l_law16_SumLast_1_s, cd, if_neg (by omega), List.drop_eq_nil_of_le (by omega)]
    simp [setAll]
  | k + 1, i, m + 1, w, hw, h1, h2 => by
    obtain ⟨p, hp⟩ := get_at (xs := ps) (i := i) (by omega)
    obtain ⟨x, hx⟩ := get_at (xs := ws) (i := i) (by omega)
    have hb := hw p (List.mem_of_getElem? hp)
    obtain ⟨y, hy⟩ := get_at (xs := w) (i := p.toNat) (by omega)
    rw [l_law16_SumLast_1_s, cd, if_pos (by omega), nth_of hp, ob, nth_of hx, ob, nth_at hy (by omega), ob, ob, w64n (by omega), last_loop N n t t2 ps ws t3 c s u hl hm k (i + 1) m _ (by rw [List.length_set]; exact hw) (by omega) (by omega), drop_at hp, drop_at hx, setAll]
theorem sumLast_eq (N : Nat) (hN : Fu + 12 ≤ N) (t t2 : List Int) (t3 : List (List Int)) (w : List Int) (cs : List (List Int)) (ps ws : List Int) (h1 : t.length ≤ 9223372036854775807) (h2 : t2.length ≤ 9223372036854775807) (h3 : t3.length ≤ 9223372036854775807) : m_law16_SumLast N (t, t2, t3, w, cs, ps, ws) = some true := by
  obtain ⟨N, rfl⟩ : ∃ n, N = n + 1 := ⟨N - 1, by omega⟩
  obtain ⟨g, hg⟩ := great_ex N (by omega) 200 t t2 t3 h3
  rw [m_law16_SumLast_eq, alive_eq N (by omega), ob, Bool.not_true, cond_false, hg, ob]
  cases g with
  | true => rfl
  | false =>
    rw [cond_false, cd]
    by_cases k1 : (200 : Int) < ((w.length : Nat) : Int)
    · rw [if_pos k1]
    rw [if_neg k1, cd]
    by_cases k2 : (30 : Int) < ((ps.length : Nat) : Int)
    · rw [if_pos k2]
    rw [if_neg k2, cdn]
    by_cases k3 : ¬ ((ws.length : Nat) : Int) = ((ps.length : Nat) : Int)
    · rw [if_neg k3]
    have k3 := Decidable.not_not.1 k3
    have hsl := sumOf_lens t t2 t3 w
    rw [if_pos k3, sbuild_eq N (by omega) t t2 t3 w h1 h2 (by omega), ob, change_eq N (by omega) t t2 t3 _ ps ws h1 h2 (by simp only; omega) (by omega) (by omega), ob]
    by_cases c : ¬ SumR t t2 t3 w
    · have e : sumOf t t2 t3 w = (1, []) := if_neg c
      have hno : ¬ SumsR t t2 t3 [] := fun h => by
        have := (sumsR_len h).1
        have h2 := (sumsR_len h).2.2.1
        simp [firstsOf] at this
        omega
      rw [e, changeOf, if_neg (fun h => hno h.1)]
      rfl
    have c := Decidable.not_not.1 c
    have e : sumOf t t2 t3 w = (0, sumsOf t2 w) := if_pos c
    rw [e]
    simp only [decide_true, Bool.not_true, cond_false]
    by_cases c2 : ¬ (OddR ws ∧ PlR t2.length ps)
    · have e2 : ∃ n, changeOf t t2 t3 (sumsOf t2 w) ps ws = (0, n, []) ∧ n ≠ 0 := by
        unfold changeOf
        split
        · rename_i h
          rw [if_neg (fun h2 => c2 ⟨h.2.2, h2⟩)]
          exact ⟨6, rfl, by decide⟩
        · exact ⟨1, rfl, by decide⟩
      obtain ⟨n, e2, hn⟩ := e2
      rw [e2]
      simp only
      rw [decide_eq_false hn]; rfl
    obtain ⟨c3, c4⟩ := Decidable.not_not.1 c2
    obtain ⟨l1, l2, l3⟩ := towerR_len c.2.1
    have hwl := c.1
    have hu := change_new (ps := ps) (sumsR_of c) c3
    rw [firsts_sums c] at hu
    have hlen := setAll_len ps ws w
    have e2 : changeOf t t2 t3 (sumsOf t2 w) ps ws = (((difS (sumsOf t2 (setAll w ps ws)) (sumsOf t2 w) : Nat) : Int), 0, sumsOf t2 (setAll w ps ws)) := by
      rw [changeOf, if_pos ⟨sumsR_of c, by omega, c3⟩, if_pos c4, firsts_sums c]
    have e3 := last_loop N ((difS (sumsOf t2 (setAll w ps ws)) (sumsOf t2 w) : Nat) : Int) t t2 ps ws t3 cs (sumsOf t2 w) (sumsOf t2 (setAll w ps ws)) (by omega) (by omega) ps.length 0 N w (by rw [show w.length = t2.length by omega]; exact c4) (by omega) (by have := Fu_eq; omega)
    rw [List.drop_zero, List.drop_zero, show ((0 : Nat) : Int) = (0 : Int) from rfl] at e3
    have e4 : changeOf t t2 t3 (sumsOf t2 (setAll w ps ws)) [] [] = (0, 0, sumsOf t2 (setAll w ps ws)) := by
      rw [changeOf, if_pos ⟨sumsR_of hu, rfl, fun x hx => by cases hx⟩, if_pos (show PlR t2.length [] from fun x hx => by cases hx), firsts_sums hu]
      simp only [setAll]
      rw [difS_self]; rfl
    have hls : (sumsOf t2 (setAll w ps ws)).length ≤ 1000 ∧ ∀ x ∈ sumsOf t2 (setAll w ps ws), x.length ≤ 8 := by
      have := sumOf_lens t t2 t3 (setAll w ps ws)
      rwa [sumOf, if_pos hu] at this
    have e5 : sumOf t t2 t3 (setAll w ps ws) = (0, sumsOf t2 (setAll w ps ws)) := if_pos hu
    rw [e2]
    simp only [decide_true, Bool.not_true, cond_false]
    rw [app_of (by omega) (by simp; omega), ob, List.nil_append, e3, ob]
    simp only
    rw [sbuild_eq N (by omega) t t2 t3 _ h1 h2 (by omega), e5, ob, change_eq N (by omega) t t2 t3 _ [] [] h1 h2 (by omega) (by simp) (by simp), e4, ob]
    simp only [decide_true, cond_true]
    rw [lists_same N (by omega) _ hls, ob, cond_true, ob, cond_true, weights_eq N (by omega) t t2 t3 _ h1 h2 (by omega), weights_sums hu, ob, ints_self' N (by omega) _ (by omega), ob, cond_true, cd]
    by_cases c5 : (0 : Int) < ((difS (sumsOf t2 (setAll w ps ws)) (sumsOf t2 w) : Nat) : Int)
    · rw [if_pos c5]
    · have := difS_zero _ _ (alike_sums c.2.1.1.2.2.2 (setAll w ps ws) w) (by omega)
      rw [if_neg c5, ← this, lists_same N (by omega) _ hls, ob]
def SmallR (l : List Int) : Prop := ∀ x ∈ l, -536870912 ≤ x ∧ x ≤ 536870912
theorem small_at {w : List Int} (hw : SmallR w) (j : Nat) : -536870912 ≤ hAt w j ∧ hAt w j ≤ 536870912 := by
  by_cases h : j < w.length
  · exact hw _ (List.mem_of_getElem? (hAt_get h))
  · have : hAt w j = 0 := by simp [hAt, List.getD_eq_getElem?_getD, List.getElem?_eq_none (show w.length ≤ j by omega)]
    omega
theorem adds1 (N : Nat) (v w t t2 : List Int) (t3 : List (List Int)) (hl : w.length = v.length) (hm : v.length ≤ 1000) : ∀ (k i m : Nat), i + k = v.length → k < m → (∀ j, j < i → (-536870912 ≤ hAt v j ∧ hAt v j ≤ 536870912) ∧ -536870912 ≤ hAt w j ∧ hAt w j ≤ 536870912) →
    ∃ r, l_law16_SumAdds_1 N m (v, w, (i : Int), t, t2, t3, (List.range v.length).map fun j => if j < i then hAt v j + hAt w j else 0) = some r ∧ (r = .inr true ∨ (r = .inl (v, w, t, t2, t3, (List.range v.length).map fun j => hAt v j + hAt w j) ∧ ∀ j, j < v.length → (-536870912 ≤ hAt v j ∧ hAt v j ≤ 536870912) ∧ -536870912 ≤ hAt w j ∧ hAt w j ≤ 536870912))
  | k, i, 0, h1, h2, h3 => by omega
  | 0, i, m + 1, h1, h2, h3 => by
    rw [l_law16_SumAdds_1_s, cd, if_neg (by omega)]
    refine ⟨_, rfl, .inr ⟨?_, fun j hj => h3 j (by omega)⟩⟩
    have : ((List.range v.length).map fun j => if j < i then hAt v j + hAt w j else 0) = (List.range v.length).map fun j => hAt v j + hAt w j := List.map_congr_left fun j hj => by
      have := List.mem_range.1 hj
      rw [if_pos (by omega)]
    rw [this]
  | k + 1, i, m + 1, h1, h2, h3 => by
    have hv := hAt_get (hs := v) (j := i) (by omega)
    have hw := hAt_get (hs := w) (j := i) (by omega)
    have hx := map_get v.length i (fun j => if j < i then hAt v j + hAt w j else 0) (by omega)
    rw [l_law16_SumAdds_1_s, cd, if_pos (by omega), nth_of hv, ob, cd]
    by_cases c1 : hAt v i < -536870912
    · rw [if_pos c1]; exact ⟨_, rfl, .inl rfl⟩
    rw [if_neg c1, ob, cd]
    by_cases c2 : 536870912 < hAt v i
    · rw [if_pos c2]; exact ⟨_, rfl, .inl rfl⟩
    rw [if_neg c2, nth_of hw, ob, cd]
    by_cases c3 : hAt w i < -536870912
    · rw [if_pos c3]; exact ⟨_, rfl, .inl rfl⟩
    rw [if_neg c3, ob, cd]
    by_cases c4 : 536870912 < hAt w i
    · rw [if_pos c4]; exact ⟨_, rfl, .inl rfl⟩
    rw [if_neg c4, ob, ob, nth_of hx, ob, ob, w64n (by omega), w64 (x := hAt v i + hAt w i) (by omega) (by omega), Int.toNat_natCast, set_map]
    have : ((List.range v.length).map fun j => if j = i then hAt v i + hAt w i else if j < i then hAt v j + hAt w j else 0) = (List.range v.length).map fun j => if j < i + 1 then hAt v j + hAt w j else 0 := List.map_congr_left fun j hj => by
      by_cases e : j = i
      · subst e
        rw [if_pos rfl, if_pos (by omega)]
      · rw [if_neg e]
        by_cases e2 : j < i
        · rw [if_pos e2, if_pos (by omega)]
        · rw [if_neg e2, if_neg (by omega)]
    rw [this]
    refine adds1 N v w t t2 t3 hl hm k (i + 1) m (by omega) (by omega) fun j hj => ?_
    by_cases e : j = i
    · subst e; exact ⟨⟨by omega, by omega⟩, by omega, by omega⟩
    · exact h3 j (by omega)
theorem zip_map (v w : List Int) (h : w.length = v.length) : ((List.range v.length).map fun j => hAt v j + hAt w j) = List.zipWith (· + ·) v w := by
  refine List.ext_getElem? fun j => ?_
  by_cases hj : j < v.length
  · rw [map_get _ _ _ hj, List.getElem?_zipWith, hAt_get hj, hAt_get (show j < w.length by omega)]
  · rw [List.getElem?_eq_none (by simp; omega), List.getElem?_eq_none (by simp [List.length_zipWith]; omega)]
theorem adds3 (N : Nat) (t t2 : List Int) (t3 a b c : List (List Int)) (i : Nat) (ra rb rc v160 v165 : List Int) (v158 v161 v163 v166 : Int) (v167 : Bool) (ha : a[i]? = some ra) (hb : b[i]? = some rb) (hc : c[i]? = some rc) (l1 : ra.length = rc.length) (l2 : rb.length = rc.length) (hm : rc.length ≤ 8) (hs : ∀ h, h < rc.length → hAt rc h = hAt ra h + hAt rb h) (hw : ∀ h, -4611686018427387904 ≤ hAt rc h ∧ hAt rc h ≤ 4611686018427387904) : ∀ (k h m : Nat), h + k = rc.length → k < m →
    l_law16_SumAdds_3 N m ((i : Int), (h : Int), v158, v160, v161, v163, v165, v166, v167, t, t2, t3, a, b, c) = some (.inl ((i : Int), v158, v160, v161, v163, v165, v166, v167, t, t2, t3, a, b, c))
  | k, h, 0, h1, h2 => by omega
  | 0, h, m + 1, h1, h2 => by
    rw [l_law16_SumAdds_3_s, nth_of hc, ob, ob, cd, if_neg (by omega)]
  | k + 1, h, m + 1, h1, h2 => by
    have e1 := hAt_get (hs := rc) (j := h) (by omega)
    have e2 := hAt_get (hs := ra) (j := h) (by omega)
    have e3 := hAt_get (hs := rb) (j := h) (by omega)
    have e4 := hs h (by omega)
    have e5 := hw h
    rw [l_law16_SumAdds_3_s, nth_of hc, ob, ob, cd, if_pos (by omega), ob, ob, nth_of e1, ob, nth_of ha, ob, ob, nth_of e2, ob, nth_of hb, ob, ob, nth_of e3, ob, w64 (by omega) (by omega), cdn, if_pos e4, w64n (by omega)]
    exact adds3 N t t2 t3 a b c i ra rb rc v160 v165 v158 v161 v163 v166 v167 ha hb hc l1 l2 hm hs hw k (h + 1) m (by omega) (by omega)
theorem adds2 (N : Nat) (hN : Fu ≤ N) (t t2 : List Int) (t3 : List (List Int)) (v w : List Int) (hl : w.length = v.length) (hv : OddR v) (hw : OddR w) (hh : HighR t2) (h1000 : t2.length ≤ 1000) : ∀ (k i m : Nat), i + k = t2.length → k < m →
    l_law16_SumAdds_2 N m ((i : Int), t, t2, t3, sumsOf t2 v, sumsOf t2 w, sumsOf t2 (List.zipWith (· + ·) v w)) = some (.inl (t, t2, t3, sumsOf t2 (List.zipWith (· + ·) v w)))
  | k, i, 0, h1, h2 => by omega
  | 0, i, m + 1, h1, h2 => by
    rw [l_law16_SumAdds_2_s, cd, if_neg (by rw [sumsOf_len]; omega)]
  | k + 1, i, m + 1, h1, h2 => by
    have a1 := sumsOf_at (hs := t2) (w := v) (i := i) (by omega)
    have a2 := sumsOf_at (hs := t2) (w := w) (i := i) (by omega)
    have a3 := sumsOf_at (hs := t2) (w := List.zipWith (· + ·) v w) (i := i) (by omega)
    have r1 := rowS_len t2 v i
    have r2 := rowS_len t2 w i
    have r3 := rowS_len t2 (List.zipWith (· + ·) v w) i
    have hb := high_at hh (j := i) (by omega)
    have e3 := adds3 N t t2 t3 _ _ _ i _ _ _ (rowS t2 w i) (rowS t2 (List.zipWith (· + ·) v w) i) (i : Int) (((rowS t2 w i).length : Nat) : Int) (i : Int) (((rowS t2 (List.zipWith (· + ·) v w) i).length : Nat) : Int) (!(decide ((((rowS t2 w i).length : Nat) : Int) = (((rowS t2 (List.zipWith (· + ·) v w) i).length : Nat) : Int)))) a1 a2 a3 (by omega) (by omega) (by omega)
      (fun h hlt => by
        have g : (h : Int) < hAt t2 i := by omega
        rw [hAt_of (rowS_at (w := v) g), hAt_of (rowS_at (w := w) g), hAt_of (rowS_at g)]
        exact seg_adds v w hl.symm i _)
      (fun h => by
        by_cases g : (h : Int) < hAt t2 i
        · obtain ⟨_, d1, d2, _⟩ := dist_ok (by omega) g
          have s1 := seg_le hv i (dist t2 i h)
          have s2 := seg_le hw i (dist t2 i h)
          rw [hAt_of (rowS_at g), seg_adds v w hl.symm i _]
          omega
        · have : hAt (rowS t2 (List.zipWith (· + ·) v w) i) h = 0 := by simp [hAt, List.getD_eq_getElem?_getD, List.getElem?_eq_none (show (rowS t2 (List.zipWith (· + ·) v w) i).length ≤ h by omega)]
          omega)
      (rowS t2 (List.zipWith (· + ·) v w) i).length 0 N (by omega) (by have := Fu_eq; omega)
    rw [l_law16_SumAdds_2_s, cd, if_pos (by rw [sumsOf_len]; omega), nth_of a1, ob, ob, nth_of a3, ob, ob, cdn, if_pos (by omega), nth_of a2, ob, ob, ob, ob, cdn, if_pos (by omega), show ((0 : Int) = ((0 : Nat) : Int)) from rfl, e3, ob]
    simp only
    rw [w64n (by omega)]
    exact adds2 N hN t t2 t3 v w hl hv hw hh h1000 k (i + 1) m (by omega) (by omega)
theorem sumAdds_eq (N : Nat) (hN : Fu + 12 ≤ N) (t t2 : List Int) (t3 : List (List Int)) (v w : List Int) (h1 : t.length ≤ 9223372036854775807) (h2 : t2.length ≤ 9223372036854775807) (h3 : t3.length ≤ 9223372036854775807) : m_law16_SumAdds N (t, t2, t3, v, w) = some true := by
  obtain ⟨N, rfl⟩ : ∃ n, N = n + 1 := ⟨N - 1, by omega⟩
  obtain ⟨g, hg⟩ := great_ex N (by omega) 200 t t2 t3 h3
  rw [m_law16_SumAdds_eq, alive_eq N (by omega), ob, Bool.not_true, cond_false, hg, ob]
  cases g with
  | true => rfl
  | false =>
    rw [cond_false, cd]
    by_cases k1 : (200 : Int) < ((v.length : Nat) : Int)
    · rw [if_pos k1]
    rw [if_neg k1, cdn]
    by_cases k2 : ¬ ((w.length : Nat) : Int) = ((v.length : Nat) : Int)
    · rw [if_neg k2]
    have k2 := Decidable.not_not.1 k2
    have hl : w.length = v.length := by omega
    obtain ⟨r, e1, hr⟩ := adds1 N v w t t2 t3 hl (by omega) v.length 0 N (by omega) (by have := Fu_eq; omega) (fun j hj => by omega)
    have e0 : ((List.range v.length).map fun j => if j < 0 then hAt v j + hAt w j else 0) = List.replicate v.length 0 := by
      refine List.ext_getElem? fun j => ?_
      rw [List.getElem?_map, List.getElem?_replicate]
      by_cases hj : j < v.length
      · rw [List.getElem?_range hj, if_pos hj]; simp
      · rw [List.getElem?_eq_none (by simp; omega), if_neg hj]; rfl
    rw [e0, show ((0 : Nat) : Int) = (0 : Int) from rfl] at e1
    rw [if_pos k2, mak_of (by omega) (by omega) (by omega), ob, Int.toNat_natCast, e1, ob]
    rcases hr with rfl | ⟨rfl, hs⟩
    · rfl
    rw [zip_map v w hl]
    have hvs : SmallR v := fun x hx => by
      obtain ⟨j, hj⟩ := List.getElem?_of_mem hx
      have := (hs j (List.getElem?_eq_some_iff.1 hj).1).1
      rwa [hAt_of hj] at this
    have hws : SmallR w := fun x hx => by
      obtain ⟨j, hj⟩ := List.getElem?_of_mem hx
      have hj2 := (List.getElem?_eq_some_iff.1 hj).1
      have := (hs j (by omega)).2
      rwa [hAt_of hj] at this
    have ov : OddR v := fun x hx => by have := hvs x hx; omega
    have ow : OddR w := fun x hx => by have := hws x hx; omega
    have oz : OddR (List.zipWith (· + ·) v w) := fun x hx => by
      obtain ⟨j, hj⟩ := List.getElem?_of_mem hx
      have e := hAt_of hj
      rw [hAt_add v w hl.symm] at e
      have s1 := small_at hvs j
      have s2 := small_at hws j
      omega
    have lz : (List.zipWith (· + ·) v w).length = v.length := by simp [List.length_zipWith]; omega
    simp only
    rw [sbuild_eq N (by omega) t t2 t3 v h1 h2 (by omega), ob, sbuild_eq N (by omega) t t2 t3 w h1 h2 (by omega), ob, sbuild_eq N (by omega) t t2 t3 _ h1 h2 (by omega), ob]
    by_cases c : ¬ (v.length = t.length ∧ TowerR t t2 t3)
    · rw [sumOf, sumOf, sumOf, if_neg (fun h => c ⟨h.1, h.2.1⟩), if_neg (fun h => c ⟨by rw [← hl]; exact h.1, h.2.1⟩), if_neg (fun h => c ⟨by rw [← lz]; exact h.1, h.2.1⟩)]
      simp [w64]
    obtain ⟨c1, c2⟩ := Decidable.not_not.1 c
    obtain ⟨l1, l2, l3⟩ := towerR_len c2
    have e2 := adds2 N (by omega) t t2 t3 v w hl ov ow c2.1.2.2.2 (by omega) t2.length 0 N (by omega) (by have := Fu_eq; omega)
    rw [show ((0 : Nat) : Int) = (0 : Int) from rfl] at e2
    rw [sumOf, sumOf, sumOf, if_pos ⟨c1, c2, ov⟩, if_pos ⟨by omega, c2, ow⟩, if_pos ⟨by omega, c2, oz⟩]
    simp only [decide_true, Bool.not_true, cond_false, sumsOf_len]
    rw [e2, ob]
    simp only
    rw [sumsOf_len, l2, decide_eq_true rfl]
end Go.Proofs.Ytiblkkkgajklfaa
