/- Values that are reckoned before they are handed on; a test against nil, told by what both ways come to. -/
import Derived.Test.YtmgjokihljeemaaExL
set_option linter.unusedVariables false
namespace Go.Proofs.Ytmgjokihljeemaa
open Go Go.RowKit
noncomputable section
/-- hands a value on, reckoned first -/
structure Fc (α : Type) where
  f : {R : Type} → α → (α → R) → R
  ok : ∀ {R : Type} (x : α) (k : α → R), f x k = k x
def fN {R : Type} (n : Nat) (k : Nat → R) : R := Nat.rec (motive := fun _ => R) (k 0) (fun m _ => k (Nat.succ m)) n
theorem fN_ok {R : Type} (n : Nat) (k : Nat → R) : fN n k = k n := by cases n <;> rfl
def fcI : Fc Int := ⟨fun {R} x k => Int.rec (motive := fun _ => R) (fun n => fN n fun m => k (Int.ofNat m)) (fun n => fN n fun m => k (Int.negSucc m)) x, fun x k => by
  cases x with
  | ofNat n => exact fN_ok n _
  | negSucc n => exact fN_ok n _⟩
def fcB : Fc Bool := ⟨fun {R} x k => Bool.rec (motive := fun _ => R) (k false) (k true) x, fun x k => by cases x <;> rfl⟩
def fcU : Fc Unit := ⟨fun x k => k (), fun x k => rfl⟩
def fL {α : Type} (a : Fc α) {R : Type} (xs : List α) : (List α → R) → R := List.rec (motive := fun _ => (List α → R) → R) (fun k => k []) (fun x _ ih k => a.f x fun y => ih fun ys => k (y :: ys)) xs
theorem fL_ok {α : Type} (a : Fc α) {R : Type} : ∀ (xs : List α) (k : List α → R), fL a xs k = k xs
  | [], k => rfl
  | x :: xs, k => by
    show a.f x (fun y => fL a xs fun ys => k (y :: ys)) = _
    rw [a.ok, fL_ok a xs]
def fcL {α : Type} (a : Fc α) : Fc (List α) := ⟨fun xs k => fL a xs k, fun xs k => fL_ok a xs k⟩
def fcP {α β : Type} (a : Fc α) (b : Fc β) : Fc (α × β) := ⟨fun {R} p k => Prod.rec (motive := fun _ => R) (fun x y => a.f x fun x' => b.f y fun y' => k (x', y')) p, fun p k => by
  obtain ⟨x, y⟩ := p
  show a.f x (fun x' => b.f y fun y' => k (x', y')) = _
  rw [a.ok, b.ok]⟩
def fcS {α β : Type} (a : Fc α) (b : Fc β) : Fc (α ⊕ β) := ⟨fun {R} p k => Sum.rec (motive := fun _ => R) (fun x => a.f x fun x' => k (.inl x')) (fun y => b.f y fun y' => k (.inr y')) p, fun p k => by
  cases p with
  | inl x => exact a.ok x _
  | inr y => exact b.ok y _⟩
/-- hands on what came of it -/
def oF {α β : Type} (a : Fc α) (o : Option α) (k : α → Option β) : Option β := Option.rec (motive := fun _ => Option β) none (fun x => a.f x k) o
theorem oF_ok {α β : Type} (a : Fc α) (o : Option α) (k : α → Option β) : oF a o k = obind o k := by
  cases o with
  | none => rfl
  | some x => exact a.ok x k
def demD {R : Type} [DecidableEq R] (f : Bool → Option R) : Option R := match f true, f false with
  | some a, some b => if a = b then some a else none
  | _, _ => none
theorem dem_D {R : Type} [DecidableEq R] (f : Bool → Option R) : dem f = demD f := by
  rw [dem_eq]
  unfold demG demD
  cases f true with
  | none => rfl
  | some a =>
    cases f false with
    | none => rfl
    | some b =>
      simp only
      by_cases h : a = b
      · rw [if_pos h, if_pos h]
      · rw [if_neg h, if_neg h]
end
end Go.Proofs.Ytmgjokihljeemaa
