/- Marked nodes of a round, told plainly. -/
import Derived.Test.YtiblkkkgajklfaaSumAll
set_option linter.unusedVariables false
set_option linter.unusedSimpArgs false
namespace Go.Proofs.Ytiblkkkgajklfaa
open Go Go.RowKit

def MarkR (w : List Int) : Prop := ∀ x ∈ w, x = 0 ∨ x = 1
instance (w : List Int) : Decidable (MarkR w) := by unfold MarkR; exact inferInstance
def PickR (t t2 : List Int) (t3 s : List (List Int)) : Prop := SumsR t t2 t3 s ∧ MarkR (firstsOf s)
instance (t t2 : List Int) (t3 s : List (List Int)) : Decidable (PickR t t2 t3 s) := by unfold PickR; exact inferInstance
def markOf (l : List Bool) : List Int := l.map fun b => cond b 1 0
/-- the marked places from a place on, of d -/
def pl (w : List Int) : Nat → Nat → List Int
  | _, 0 => []
  | i, d + 1 => if hAt w (i % w.length) = 1 then ((i % w.length : Nat) : Int) :: pl w ((i + 1) % w.length) d else pl w ((i + 1) % w.length) d
theorem mark_at {w : List Int} (hw : MarkR w) (j : Nat) : hAt w j = 0 ∨ hAt w j = 1 := by
  by_cases h : j < w.length
  · exact hw _ (List.mem_of_getElem? (hAt_get h))
  · exact .inl (by simp [hAt, List.getD_eq_getElem?_getD, List.getElem?_eq_none (show w.length ≤ j by omega)])
theorem mark_odd {w : List Int} (hw : MarkR w) : OddR w := fun x hx => by
  rcases hw x hx with h | h <;> omega
theorem markOf_r (l : List Bool) : MarkR (markOf l) := fun x hx => by
  obtain ⟨b, _, rfl⟩ := List.mem_map.1 hx
  cases b
  · exact .inl rfl
  · exact .inr rfl
theorem pl_add (w : List Int) : ∀ (a i b : Nat), pl w i (a + b) = pl w i a ++ pl w ((i + a) % w.length) b
  | 0, i, b => by
    rw [Nat.zero_add, Nat.add_zero]
    cases b with
    | zero => rfl
    | succ b => simp only [pl, List.nil_append, Nat.mod_mod, Nat.mod_add_mod]
  | a + 1, i, b => by
    have := pl_add w a ((i + 1) % w.length) b
    rw [Nat.mod_add_mod, show i + 1 + a = i + (a + 1) by omega] at this
    rw [show a + 1 + b = (a + b) + 1 by omega, pl, pl, this]
    split <;> rfl
theorem pl_mod (w : List Int) (i d : Nat) : pl w (i % w.length) d = pl w i d := by
  cases d with
  | zero => rfl
  | succ d => simp only [pl, Nat.mod_mod, Nat.mod_add_mod]
theorem pl_len {w : List Int} (hw : MarkR w) (i : Nat) : ∀ d, (((pl w i d).length : Nat) : Int) = segS w i d
  | 0 => rfl
  | d + 1 => by
    rw [pl_add, List.length_append, segS, ← pl_len hw i d]
    have := mark_at hw ((i + d) % w.length)
    simp only [pl, Nat.mod_mod]
    split
    · rename_i h; simp [h]
    · rename_i h; simp; omega
theorem pl_at {w : List Int} (hw : MarkR w) : ∀ (d i k : Nat), k < (pl w i d).length → ∃ j, j < d ∧ (pl w i d)[k]? = some (((i + j) % w.length : Nat) : Int) ∧ hAt w ((i + j) % w.length) = 1 ∧ segS w i j = (k : Int)
  | 0, i, k, h => by simp [pl] at h
  | d + 1, i, k, h => by
    rw [pl] at h ⊢
    by_cases c : hAt w (i % w.length) = 1
    · rw [if_pos c] at h ⊢
      cases k with
      | zero => exact ⟨0, by omega, rfl, c, rfl⟩
      | succ k =>
        obtain ⟨j, j1, j2, j3, j4⟩ := pl_at hw d ((i + 1) % w.length) k (by simpa using h)
        rw [Nat.mod_add_mod, show i + 1 + j = i + (j + 1) by omega] at j2 j3
        refine ⟨j + 1, by omega, by simpa using j2, j3, ?_⟩
        rw [Nat.add_comm, seg_add, j4, segS, segS, Nat.add_zero, c]; omega
    · rw [if_neg c] at h ⊢
      obtain ⟨j, j1, j2, j3, j4⟩ := pl_at hw d ((i + 1) % w.length) k h
      rw [Nat.mod_add_mod, show i + 1 + j = i + (j + 1) by omega] at j2 j3
      refine ⟨j + 1, by omega, j2, j3, ?_⟩
      have := mark_at hw (i % w.length)
      rw [Nat.add_comm, seg_add, j4, segS, segS, Nat.add_zero]; omega
end Go.Proofs.Ytiblkkkgajklfaa
