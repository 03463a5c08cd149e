/- Small laws on what the reckoned functions are made of: operations that may fail, numbers that do not wrap, lists by place. -/
import Derived.Test.YtggnolfcgaglfaaExL
set_option linter.unusedVariables false
set_option linter.unusedSimpArgs false
namespace Go.Proofs.Ytggnolfcgaglfaa
open Go Go.RowKit

/-- more rounds than any list has places -/
def Fu : Nat := 18446744073709551616
theorem Fu_eq : Fu = 18446744073709551616 := rfl
theorem maxLen_eq : maxLen = 9223372036854775807 := rfl
theorem cd {α : Type} {p : Prop} [Decidable p] (x y : α) : cond (decide p) x y = if p then x else y := by
  by_cases h : p <;> simp [h]
theorem cdn {α : Type} {p : Prop} [Decidable p] (x y : α) : cond (!(decide p)) x y = if p then y else x := by
  by_cases h : p <;> simp [h]
theorem cb {α : Type} (b : Bool) (x y : α) : cond b x y = if b = true then x else y := by cases b <;> rfl
theorem ob {α β : Type} (x : α) (f : α → Option β) : obind (some x) f = f x := rfl
theorem ob_id {α : Type} (o : Option α) : (obind o fun z => some z) = o := by cases o <;> rfl
/-- a whole number that fits -/
theorem w64 {x : Int} (h1 : -9223372036854775808 ≤ x) (h2 : x ≤ 9223372036854775807) : IntKind.wrap .i64 x = x := by
  simp [IntKind.wrap, IntKind.bits, IntKind.signed]; omega
theorem w64n {i : Nat} (h : i < 9223372036854775807) : IntKind.wrap .i64 ((i : Int) + 1) = ((i + 1 : Nat) : Int) := by
  rw [w64 (by omega) (by omega)]; omega
theorem wu8 {x : Int} (h1 : 0 ≤ x) (h2 : x ≤ 255) : IntKind.wrap .u8 x = x := by
  simp [IntKind.wrap, IntKind.bits, IntKind.signed]; omega
theorem wu32 {x : Int} (h1 : 0 ≤ x) (h2 : x ≤ 4294967295) : IntKind.wrap .u32 x = x := by
  simp [IntKind.wrap, IntKind.bits, IntKind.signed]; omega
theorem nth_of {α : Type} {xs : List α} {i : Nat} {x : α} (h : xs[i]? = some x) : nthI xs (i : Int) = some x := by
  simp [nthI, h]
theorem nth_at {α : Type} {xs : List α} {i : Nat} {j : Int} {x : α} (h : xs[i]? = some x) (hj : j = i) : nthI xs j = some x := by
  subst hj; exact nth_of h
theorem get_at {α : Type} {xs : List α} {i : Nat} (h : i < xs.length) : ∃ x, xs[i]? = some x := ⟨_, List.getElem?_eq_getElem h⟩
theorem nth_ex {α : Type} {xs : List α} {j : Int} (h0 : 0 ≤ j) (h : j < xs.length) : ∃ x, xs[j.toNat]? = some x ∧ nthI xs j = some x := by
  obtain ⟨x, hx⟩ := get_at (xs := xs) (i := j.toNat) (by omega)
  exact ⟨x, hx, nth_at hx (by omega)⟩
theorem nth_none {α : Type} {xs : List α} {j : Int} (h : j < 0 ∨ (xs.length : Int) ≤ j) : nthI xs j = none := by
  unfold nthI
  split
  · exact List.getElem?_eq_none (by omega)
  · rfl
theorem drop_at {α : Type} {xs : List α} {i : Nat} {x : α} (h : xs[i]? = some x) : xs.drop i = x :: xs.drop (i + 1) := by
  obtain ⟨hl, he⟩ := List.getElem?_eq_some_iff.1 h
  rw [← he]; exact List.drop_eq_getElem_cons hl
theorem take_at {α : Type} {xs : List α} {i : Nat} {x : α} (h : xs[i]? = some x) : xs.take (i + 1) = xs.take i ++ [x] := by
  rw [List.take_add_one, h]; rfl
theorem sub_of {α : Type} {xs : List α} {l h : Int} (h0 : 0 ≤ l) (h1 : l ≤ h) (h2 : h ≤ xs.length) : subI xs l h = some ((xs.take h.toNat).drop l.toNat) := by
  simp [subI, h0, h1, h2]
theorem sub_take {α : Type} {xs : List α} {h : Int} (h1 : 0 ≤ h) (h2 : h ≤ xs.length) : subI xs 0 h = some (xs.take h.toNat) := by
  rw [sub_of (by omega) h1 h2]; rfl
theorem sub_drop {α : Type} {xs : List α} {l : Int} (h1 : 0 ≤ l) (h2 : l ≤ xs.length) : subI xs l ((xs.length : Nat) : Int) = some (xs.drop l.toNat) := by
  rw [sub_of h1 h2 (by omega)]; simp
theorem subM_all {α : Type} (xs : List α) : subM xs 0 ((xs.length : Nat) : Int) ((xs.length : Nat) : Int) = some xs := by
  simp [subM]
theorem app_of {α : Type} {b : Nat} {xs ys : List α} (hb : b ≤ 1000) (h : xs.length + ys.length ≤ 100000000000) : appI b xs ys = some (xs ++ ys) := by
  unfold appI
  rw [if_pos]
  refine ⟨?_, by rw [maxLen_eq]; omega⟩
  calc (xs.length + ys.length) * b ≤ 100000000000 * 1000 := Nat.mul_le_mul h hb
    _ ≤ 140737488355328 := by decide
theorem mak_of {a : Int} {b : Nat} (hb : b ≤ 1000) (h0 : 0 ≤ a) (h : a ≤ 100000000000) : makI a b = some a.toNat := by
  unfold makI
  rw [if_pos]
  refine ⟨h0, ?_, by rw [maxLen_eq]; omega⟩
  calc b * a.toNat ≤ 1000 * 100000000000 := Nat.mul_le_mul hb (by omega)
    _ ≤ 140737488355328 := by decide
theorem rem_of {a b : Int} (h : b ≠ 0) : remI a b = some (a.tmod b) := by simp [remI, h]
theorem quo_of {a b : Int} (h : b ≠ 0) : quoI a b = some (a.tdiv b) := by simp [quoI, h]
theorem tmod_nat (a b : Nat) : Int.tmod (a : Int) (b : Int) = ((a % b : Nat) : Int) := by
  rw [Int.tmod_eq_emod_of_nonneg (by omega)]; omega
theorem tdiv_nat (a b : Nat) : Int.tdiv (a : Int) (b : Int) = ((a / b : Nat) : Int) := by
  rw [Int.tdiv_eq_ediv_of_nonneg (by omega)]; omega
end Go.Proofs.Ytggnolfcgaglfaa
