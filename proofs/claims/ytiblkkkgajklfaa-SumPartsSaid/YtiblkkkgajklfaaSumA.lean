/- Sums in a round, told plainly: what stands from a place on. -/
import Derived.Test.YtiblkkkgajklfaaTowHead
set_option linter.unusedVariables false
set_option linter.unusedSimpArgs false
namespace Go.Proofs.Ytiblkkkgajklfaa
open Go Go.RowKit

/-- what stands from place i on, of d places, going round -/
def segS (w : List Int) (i : Nat) : Nat → Int
  | 0 => 0
  | d + 1 => segS w i d + hAt w ((i + d) % w.length)
/-- what stands ahead of a place -/
def pre (w : List Int) : Nat → Int
  | 0 => 0
  | k + 1 => pre w k + hAt w k
def OddR (w : List Int) : Prop := ∀ x ∈ w, -1073741824 ≤ x ∧ x ≤ 1073741824
instance (w : List Int) : Decidable (OddR w) := by unfold OddR; exact inferInstance
def rowS (hs w : List Int) (i : Nat) : List Int := (List.range (hAt hs i).toNat).map fun h => segS w i (dist hs i h)
def sumsOf (hs w : List Int) : List (List Int) := (List.range hs.length).map (rowS hs w)
def SumR (t t2 : List Int) (t3 : List (List Int)) (w : List Int) : Prop := w.length = t.length ∧ TowerR t t2 t3 ∧ OddR w
instance (t t2 : List Int) (t3 : List (List Int)) (w : List Int) : Decidable (SumR t t2 t3 w) := by unfold SumR; exact inferInstance
def sumOf (t t2 : List Int) (t3 : List (List Int)) (w : List Int) : Int × List (List Int) := if SumR t t2 t3 w then (0, sumsOf t2 w) else (1, [])

theorem odd_at {w : List Int} (hw : OddR w) (j : Nat) : -1073741824 ≤ hAt w j ∧ hAt w j ≤ 1073741824 := by
  by_cases h : j < w.length
  · exact hw _ (List.mem_of_getElem? (hAt_get h))
  · have : hAt w j = 0 := by simp [hAt, List.getElem?_eq_none (show w.length ≤ j by omega)]
    omega
theorem pre_le {w : List Int} (hw : OddR w) : ∀ k : Nat, -(1073741824 * (k : Int)) ≤ pre w k ∧ pre w k ≤ 1073741824 * (k : Int)
  | 0 => by simp [pre]
  | k + 1 => by
    have := pre_le hw k
    have h2 := odd_at hw k
    rw [pre]; omega
theorem seg_le {w : List Int} (hw : OddR w) (i : Nat) : ∀ d : Nat, -(1073741824 * (d : Int)) ≤ segS w i d ∧ segS w i d ≤ 1073741824 * (d : Int)
  | 0 => by simp [segS]
  | d + 1 => by
    have := seg_le hw i d
    have h2 := odd_at hw ((i + d) % w.length)
    rw [segS]; omega
theorem seg_pre {w : List Int} {i : Nat} : ∀ d, i + d ≤ w.length → segS w i d = pre w (i + d) - pre w i
  | 0, _ => by simp [segS]
  | d + 1, h => by
    rw [segS, seg_pre d (by omega), Nat.mod_eq_of_lt (by omega), ← Nat.add_assoc, pre]; omega
theorem seg_wrap {w : List Int} {i : Nat} (hi : i < w.length) : ∀ d, d ≤ w.length → w.length ≤ i + d → segS w i d = pre w w.length - pre w i + pre w (i + d - w.length)
  | 0, _, h => by omega
  | d + 1, h1, h2 => by
    rw [segS]
    by_cases h : w.length ≤ i + d
    · have e : (i + d) % w.length = i + d - w.length := by rw [Nat.mod_eq_sub_mod h, Nat.mod_eq_of_lt (by omega)]
      rw [seg_wrap hi d (by omega) h, e, show i + (d + 1) - w.length = (i + d - w.length) + 1 by omega, pre]; omega
    · have e : i + (d + 1) = w.length := by omega
      rw [seg_pre d (by omega), Nat.mod_eq_of_lt (by omega), show i + (d + 1) - w.length = 0 by omega, ← e, ← Nat.add_assoc]
      simp only [pre]; omega
/-- over a place between -/
theorem seg_add (w : List Int) (i a : Nat) : ∀ b, segS w i (a + b) = segS w i a + segS w ((i + a) % w.length) b
  | 0 => by simp [segS]
  | b + 1 => by
    rw [← Nat.add_assoc, segS, segS, seg_add w i a b, Nat.mod_add_mod, Nat.add_assoc i a b]; omega
/-- all round it is all -/
theorem seg_all {w : List Int} {i : Nat} (hi : i < w.length) : segS w i w.length = pre w w.length := by
  rw [seg_wrap hi _ (Nat.le_refl _) (by omega), show i + w.length - w.length = i by omega]; omega
theorem link_seg {hs w : List Int} {i h : Nat} (hl : w.length = hs.length) (hi : i < hs.length) (hh : (h : Int) < hAt hs i) :
    pre w ((i + dist hs i h) % hs.length) - pre w i + (if (i + dist hs i h) % hs.length ≤ i then pre w hs.length else 0) = segS w i (dist hs i h) := by
  obtain ⟨_, d1, d2, _⟩ := dist_ok hi hh
  by_cases h1 : i + dist hs i h < hs.length
  · rw [Nat.mod_eq_of_lt h1, if_neg (by omega), seg_pre _ (by omega)]; omega
  · have e : (i + dist hs i h) % hs.length = i + dist hs i h - hs.length := by rw [Nat.mod_eq_sub_mod (by omega), Nat.mod_eq_of_lt (by omega)]
    rw [e, if_pos (by omega), seg_wrap (by omega) _ (by omega) (by omega), hl]; omega
theorem rowS_len (hs w : List Int) (i : Nat) : (rowS hs w i).length = (hAt hs i).toNat := by simp [rowS]
theorem sumsOf_at {hs w : List Int} {i : Nat} (hi : i < hs.length) : (sumsOf hs w)[i]? = some (rowS hs w i) := map_get _ _ _ hi
theorem rowS_at {hs w : List Int} {i h : Nat} (hh : (h : Int) < hAt hs i) : (rowS hs w i)[h]? = some (segS w i (dist hs i h)) := map_get _ _ _ (by omega)
/-- at level 0 it is the weight -/
theorem dist_zero {hs : List Int} (hh : HighR hs) {i : Nat} (hi : i < hs.length) : dist hs i 0 = 1 := by
  have hn : 0 < hs.length := by omega
  obtain ⟨_, d1, d2, d3⟩ := dist_ok (h := 0) hi (by have := high_at hh hi; omega)
  rcases Nat.lt_or_ge 1 (dist hs i 0) with h | h
  · have := d3 1 (by omega) h
    have := high_at hh (Nat.mod_lt (i + 1) hn)
    omega
  · omega
theorem rowS_first {hs w : List Int} (hh : HighR hs) (hl : w.length = hs.length) {i : Nat} (hi : i < hs.length) : (rowS hs w i)[0]? = some (hAt w i) := by
  rw [rowS_at (by have := high_at hh hi; omega), dist_zero hh hi]
  simp only [segS, Nat.add_zero, Int.zero_add]
  rw [Nat.mod_eq_of_lt (by omega)]
/-! weights that may not be -/
theorem sodd_eq (N : Nat) (hN : Fu ≤ N) (x : Int) : m_sum_odd N x = some (decide (¬ (-1073741824 ≤ x ∧ x ≤ 1073741824))) := by
  obtain ⟨N, rfl⟩ : ∃ n, N = n + 1 := ⟨N - 1, by have := Fu_eq; omega⟩
  rw [m_sum_odd_eq, cd]
  by_cases h1 : x < -1073741824
  · rw [if_pos h1]; simp; omega
  · rw [if_neg h1]
    by_cases h2 : 1073741824 < x
    · simp [h2]
    · have : -1073741824 ≤ x ∧ x ≤ 1073741824 := by omega
      simp [h2, this]
theorem soddf_loop (N : Nat) (hN : Fu ≤ N) (l : List Int) (hm : l.length ≤ 9223372036854775807) : ∀ (k i m : Nat), i + k = l.length → k < m →
    ∃ r : Int, l_slices_IndexFunc_Lint_int_sum_odd_1 N m (l, ((l.length : Nat) : Int), (i : Int)) = some (if OddR (l.drop i) then .inl () else .inr r) ∧ 0 ≤ r
  | k, i, 0, h1, h2 => by omega
  | 0, i, m + 1, h1, h2 => by
    refine ⟨0, ?_, by omega⟩
    rw [l_slices_IndexFunc_Lint_int_sum_odd_1_s, cd, if_neg (by omega), List.drop_eq_nil_of_le (by omega), if_pos (by intro t h; cases h)]
  | k + 1, i, m + 1, h1, h2 => by
    obtain ⟨x, hx⟩ := get_at (xs := l) (i := i) (by omega)
    rw [l_slices_IndexFunc_Lint_int_sum_odd_1_s, cd, if_pos (by omega), nth_of hx, ob, sodd_eq N hN, ob, cd, drop_at hx]
    by_cases c1 : ¬ (-1073741824 ≤ x ∧ x ≤ 1073741824)
    · rw [if_pos c1]
      exact ⟨i, by rw [if_neg (fun e => c1 (e x (by simp)))], by omega⟩
    · rw [if_neg c1]
      have c1 := Decidable.not_not.1 c1
      obtain ⟨r, h3, h4⟩ := soddf_loop N hN l hm k (i + 1) m (by omega) (by omega)
      refine ⟨r, ?_, h4⟩
      rw [w64n (by omega), h3]
      have : OddR (x :: l.drop (i + 1)) ↔ OddR (l.drop (i + 1)) := ⟨fun e t ht => e t (by simp [ht]), fun e t ht => by
        rcases List.mem_cons.1 ht with rfl | ht
        · exact c1
        · exact e t ht⟩
      by_cases h5 : OddR (l.drop (i + 1))
      · rw [if_pos h5, if_pos (this.2 h5)]
      · rw [if_neg h5, if_neg (fun e => h5 (this.1 e))]
theorem soddf_eq (N : Nat) (hN : Fu + 2 ≤ N) (l : List Int) (hm : l.length ≤ 9223372036854775807) : m_slices_ContainsFunc_Lint_int_sum_odd N l = some (!decide (OddR l)) := by
  obtain ⟨N, rfl⟩ : ∃ n, N = n + 2 := ⟨N - 2, by omega⟩
  obtain ⟨r, h1, h2⟩ := soddf_loop N (by omega) l hm l.length 0 N (by omega) (by have := Fu_eq; omega)
  rw [m_slices_ContainsFunc_Lint_int_sum_odd_eq, m_slices_IndexFunc_Lint_int_sum_odd_eq, show ((0 : Int) = ((0 : Nat) : Int)) from rfl, h1, ob, List.drop_zero]
  by_cases h : OddR l
  · rw [if_pos h]; simp [h, ob]
  · rw [if_neg h]; simp [h, ob, h2]
end Go.Proofs.Ytiblkkkgajklfaa
