/- Marks, turned; told plainly. -/
import Derived.Test.YtiblkkkgajklfaaPickA
set_option linter.unusedVariables false
set_option linter.unusedSimpArgs false
namespace Go.Proofs.Ytiblkkkgajklfaa
open Go Go.RowKit

def flip1 (w : List Int) (p : Nat) : List Int := w.set p (1 - hAt w p)
def flipAll : List Int → List Int → List Int
  | w, [] => w
  | w, p :: ps => flipAll (flip1 w p.toNat) ps
theorem flip1_len (w : List Int) (p : Nat) : (flip1 w p).length = w.length := by simp [flip1]
theorem flipAll_len : ∀ (ps w : List Int), (flipAll w ps).length = w.length
  | [], w => rfl
  | p :: ps, w => by rw [flipAll, flipAll_len ps, flip1_len]
theorem hAt_flip (w : List Int) (p j : Nat) : hAt (flip1 w p) j = if p = j ∧ j < w.length then 1 - hAt w j else hAt w j := by
  unfold flip1 hAt
  simp only [List.getD_eq_getElem?_getD]
  rw [List.getElem?_set]
  by_cases c : p = j
  · subst c
    by_cases h : p < w.length
    · simp [h]
    · simp [h]
  · simp [c]
theorem ext_at {a b : List Int} (hl : a.length = b.length) (h : ∀ j, hAt a j = hAt b j) : a = b := by
  refine List.ext_getElem? fun j => ?_
  by_cases hj : j < a.length
  · rw [hAt_get hj, hAt_get (show j < b.length by omega), h j]
  · rw [List.getElem?_eq_none (by omega), List.getElem?_eq_none (show b.length ≤ j by omega)]
theorem flip_comm (w : List Int) (p q : Nat) : flip1 (flip1 w p) q = flip1 (flip1 w q) p := by
  refine ext_at (by simp [flip1_len]) fun j => ?_
  rw [hAt_flip, hAt_flip, hAt_flip, hAt_flip, flip1_len, flip1_len]
  by_cases h1 : p = j <;> by_cases h2 : q = j <;> by_cases h3 : j < w.length <;> simp [h1, h2, h3]
theorem flip_flip (w : List Int) (p : Nat) : flip1 (flip1 w p) p = w := by
  refine ext_at (by simp [flip1_len]) fun j => ?_
  rw [hAt_flip, hAt_flip, flip1_len]
  by_cases h1 : p = j <;> by_cases h3 : j < w.length <;> simp [h1, h3]
  omega
theorem flipAll_flip : ∀ (ps w : List Int) (p : Nat), flipAll (flip1 w p) ps = flip1 (flipAll w ps) p
  | [], w, p => rfl
  | q :: ps, w, p => by rw [flipAll, flipAll, flip_comm, flipAll_flip ps]
theorem flipAll_twice : ∀ (ps w : List Int), flipAll (flipAll w ps) ps = w
  | [], w => rfl
  | p :: ps, w => by
    have h := flipAll_flip ps (flip1 (flipAll w ps) p.toNat) p.toNat
    rw [flip_flip, flipAll_twice ps w] at h
    rw [flipAll, flipAll, flipAll_flip ps w]
    rw [flipAll_flip ps (flip1 (flipAll w ps) p.toNat), ← h]
theorem flip1_mark {w : List Int} (h : MarkR w) (p : Nat) : MarkR (flip1 w p) := fun x hx => by
  rcases List.mem_or_eq_of_mem_set hx with e | e
  · exact h x e
  · have := mark_at h p
    omega
theorem flipAll_mark : ∀ (ps w : List Int), MarkR w → MarkR (flipAll w ps)
  | [], w, h => h
  | p :: ps, w, h => flipAll_mark ps _ (flip1_mark h _)
theorem pre_flip {w : List Int} {p : Nat} (hp : p < w.length) : ∀ k, pre (flip1 w p) k = pre w k + if p < k then 1 - 2 * hAt w p else 0
  | 0 => by simp [pre]
  | k + 1 => by
    rw [pre, pre, pre_flip hp k, hAt_flip]
    by_cases h : p = k
    · subst h; simp [hp]; omega
    · have : ¬ (p = k ∧ k < w.length) := fun e => h e.1
      rw [if_neg this]
      by_cases h2 : p < k
      · rw [if_pos h2, if_pos (by omega)]; omega
      · rw [if_neg h2, if_neg (by omega)]; omega
end Go.Proofs.Ytiblkkkgajklfaa
