/- Sums: what the laws SumParts, SumLast and SumAdds need, told plainly. -/
import Derived.Test.YtiblkkkgajklfaaSumH
set_option linter.unusedVariables false
set_option linter.unusedSimpArgs false
namespace Go.Proofs.Ytiblkkkgajklfaa
open Go Go.RowKit

theorem dOf_nat {n a b : Nat} (ha : a < n) (hb : b < n) : dOf n (a : Int) (b : Int) = if a ≤ b then b - a else b + n - a := by
  unfold dOf
  rw [Int.toNat_natCast, Int.toNat_natCast]
  by_cases h : a ≤ b
  · rw [if_pos h, Nat.mod_eq_sub_mod (by omega), Nat.mod_eq_of_lt (by omega)]; omega
  · rw [if_neg h, Nat.mod_eq_of_lt (by omega)]
theorem dOf_to {n a b : Nat} (ha : a < n) (hb : b < n) : (a + dOf n (a : Int) (b : Int)) % n = b := by
  rw [dOf_nat ha hb]
  by_cases h : a ≤ b
  · rw [if_pos h, Nat.mod_eq_of_lt (by omega)]; omega
  · rw [if_neg h, Nat.mod_eq_sub_mod (by omega), Nat.mod_eq_of_lt (by omega)]; omega
theorem dOf_self {n a : Nat} (ha : a < n) : dOf n (a : Int) (a : Int) = 0 := by
  rw [dOf_nat ha ha, if_pos (Nat.le_refl _)]; omega
theorem seg_round {w : List Int} {a b : Nat} (ha : a < w.length) (hb : b < w.length) (h : a ≠ b) : segS w a (dOf w.length (a : Int) (b : Int)) + segS w b (dOf w.length (b : Int) (a : Int)) = pre w w.length := by
  have := seg_add w a (dOf w.length (a : Int) (b : Int)) (dOf w.length (b : Int) (a : Int))
  rw [dOf_to ha hb] at this
  rw [← this, ← seg_all ha]
  congr 1
  rw [dOf_nat ha hb, dOf_nat hb ha]
  split <;> split <;> omega
theorem seg_part {w : List Int} {a b c : Nat} (ha : a < w.length) (hb : b < w.length) (hc : c < w.length) : segS w a (dOf w.length (a : Int) (c : Int)) + segS w c (dOf w.length (c : Int) (b : Int)) = segS w a (dOf w.length (a : Int) (b : Int)) + (if dOf w.length (a : Int) (c : Int) ≤ dOf w.length (a : Int) (b : Int) then 0 else pre w w.length) := by
  have e1 := seg_add w a (dOf w.length (a : Int) (c : Int)) (dOf w.length (c : Int) (b : Int))
  rw [dOf_to ha hc] at e1
  rw [← e1]
  by_cases h : dOf w.length (a : Int) (c : Int) ≤ dOf w.length (a : Int) (b : Int)
  · rw [if_pos h, Int.add_zero]
    congr 1
    rw [dOf_nat ha hb, dOf_nat ha hc] at h
    rw [dOf_nat ha hb, dOf_nat ha hc, dOf_nat hc hb]
    split at h <;> split at h <;> split <;> split <;> omega
  · rw [if_neg h]
    have e2 := seg_add w a (dOf w.length (a : Int) (b : Int)) w.length
    rw [dOf_to ha hb, seg_all hb] at e2
    rw [← e2]
    congr 1
    rw [dOf_nat ha hb, dOf_nat ha hc] at h
    rw [dOf_nat ha hb, dOf_nat ha hc, dOf_nat hc hb]
    split at h <;> split at h <;> split <;> split <;> omega
theorem lookD_le (hs : List Int) : ∀ f i d, lookD hs f i d ≤ f
  | 0, _, _ => Nat.le_refl _
  | f + 1, i, d => by
    rw [lookD]
    split
    · omega
    · exact Nat.succ_le_succ (lookD_le hs f _ _)
theorem difL_self : ∀ a : List Int, difL a a = 0
  | [] => rfl
  | x :: a => by rw [difL, if_pos rfl, difL_self a]
theorem difS_self : ∀ a : List (List Int), difS a a = 0
  | [] => rfl
  | x :: a => by rw [difS, difL_self, difS_self a]
theorem difL_zero : ∀ a b : List Int, a.length = b.length → difL a b = 0 → a = b
  | [], [], _, _ => rfl
  | x :: a, y :: b, h, h2 => by
    rw [difL] at h2
    by_cases c : x = y
    · rw [c, difL_zero a b (by simpa using h) (by rw [if_pos c] at h2; omega)]
    · rw [if_neg c] at h2; omega
theorem difS_zero : ∀ a b : List (List Int), Alike a b → difS a b = 0 → a = b
  | [], [], _, _ => rfl
  | [], y :: b, h, _ => by have := h.1; simp at this
  | x :: a, [], h, _ => by have := h.1; simp at this
  | x :: a, y :: b, h, h2 => by
    rw [difS] at h2
    rw [difL_zero x y (h.2 0 x y rfl rfl).1 (by omega), difS_zero a b ⟨by have := h.1; simpa using this, fun j u v hu hv => h.2 (j + 1) u v (by simpa using hu) (by simpa using hv)⟩ (by omega)]
theorem hAt_add (v w : List Int) (h : v.length = w.length) (j : Nat) : hAt (List.zipWith (· + ·) v w) j = hAt v j + hAt w j := by
  unfold hAt
  rw [List.getD_eq_getElem?_getD, List.getD_eq_getElem?_getD, List.getD_eq_getElem?_getD, List.getElem?_zipWith]
  by_cases c : j < v.length
  · rw [List.getElem?_eq_getElem c, List.getElem?_eq_getElem (show j < w.length by omega)]; rfl
  · rw [List.getElem?_eq_none (by omega), List.getElem?_eq_none (show w.length ≤ j by omega)]; rfl
theorem seg_adds (v w : List Int) (h : v.length = w.length) (i : Nat) : ∀ d, segS (List.zipWith (· + ·) v w) i d = segS v i d + segS w i d
  | 0 => rfl
  | d + 1 => by
    have hl : (List.zipWith (· + ·) v w).length = v.length := by simp [List.length_zipWith]; omega
    rw [segS, segS, segS, seg_adds v w h i d, hAt_add v w h, hl, ← h]; omega
end Go.Proofs.Ytiblkkkgajklfaa
