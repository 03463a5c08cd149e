/- The functions of this seat, reckoned: of each what it computes, as a tree, and its contract (printed by wip/tool/plan.sh). -/
import Derived.Test.YtmijkdlkhakmiaaHand
set_option linter.unusedVariables false
set_option maxRecDepth 100000
namespace Go.Proofs.Ytmijkdlkhakmiaa
open Go Go.RowKit
/-! archipelago/ring.Right$1 -/
noncomputable def ct_ring_RightF1 (N : Nat) : List Ctr := []
def p_ring_RightF1 : Pl := .z
def r_ring_RightF1 : PS := ⟨[(2, .h .b)], [], [.b]⟩
noncomputable def m_ring_RightF1 (N : Nat) : Int → Option (Bool) := exF T ct_ring_RightF1 N (bodyOf Try.f32) 9 p_ring_RightF1 [.h (.i .i64)] [] [(.i .i64)] r_ring_RightF1
noncomputable def c_ring_RightF1 (N : Nat) : Ctr := ⟨32, [.h (.i .i64)], [], [(.i .i64)], Tup r_ring_RightF1.c, m_ring_RightF1 N, fun y _ k => k (resG T (mkPS 9 r_ring_RightF1 y) Try.f32.results.toList) (keepH' [] (mkPS 9 r_ring_RightF1 y).h), false, true⟩
theorem m_ring_RightF1_eq (N : Nat) (t : Int) : m_ring_RightF1 (N + 1) (t) = cond (decide (t < (0 : Int)))
   (some true)
   (some (decide ((10000 : Int) < t))) := by kernel_rfl
theorem c_ring_RightF1_ok (N : Nat) : (c_ring_RightF1 N).ok Try.prog := exF_ok (T := T) (CT := ct_ring_RightF1) (N := N) (fun M => ⟨tOk, ctAll_nil, mixed⟩) Try.func32 (by kernel_rfl) (by kernel_rfl) p_ring_RightF1 [.h (.i .i64)] [] [(.i .i64)] r_ring_RightF1 false true [] (by kernel_rfl) (fun y => by kernel_rfl) (fun _ => ⟨rfl, rfl⟩) (fun y => by kernel_rfl) (m_ring_RightF1 N) (fun x => by kernel_rfl)
/-! slices.IndexFunc[[]int,int] -/
noncomputable def ct_slices_IndexFunc_Lint_int_ring_RightF1 (N : Nat) : List Ctr := [c_ring_RightF1 N]
def i_slices_IndexFunc_Lint_int_ring_RightF1_1 : PS := ⟨[(0, .h (.sl (.i .i64))), (1, .k (.v (.func (.func 32) #[] #[]))), (7, .h (.i .i64)), (8, .h (.i .i64))], [], [(.sl (.i .i64)), (.i .i64), (.i .i64)]⟩
def o_slices_IndexFunc_Lint_int_ring_RightF1_1 : List (Exit × PS) := [((.exit 0), ⟨[], [], []⟩), (.ret, ⟨[(4, .h (.i .i64))], [], [(.i .i64)]⟩)]
def p_slices_IndexFunc_Lint_int_ring_RightF1_1 : Pl := .z
noncomputable def l_slices_IndexFunc_Lint_int_ring_RightF1_1 (N : Nat) : Nat → (List Int) × Int × Int → Option ((Unit) ⊕ (Int)) := loopF (exC T (ct_slices_IndexFunc_Lint_int_ring_RightF1 N) N (codeAt [1, 0, 1, 0, 0] (bodyOf Try.f40))) 19 i_slices_IndexFunc_Lint_int_ring_RightF1_1 o_slices_IndexFunc_Lint_int_ring_RightF1_1 p_slices_IndexFunc_Lint_int_ring_RightF1_1
def p_slices_IndexFunc_Lint_int_ring_RightF1 : Pl := (.n .z (.n (.n .z (.n (.loop i_slices_IndexFunc_Lint_int_ring_RightF1_1 o_slices_IndexFunc_Lint_int_ring_RightF1_1 p_slices_IndexFunc_Lint_int_ring_RightF1_1) .z)) .z))
def r_slices_IndexFunc_Lint_int_ring_RightF1 : PS := ⟨[(4, .h (.i .i64))], [], [(.i .i64)]⟩
noncomputable def m_slices_IndexFunc_Lint_int_ring_RightF1 (N : Nat) : (List Int) → Option (Int) := exF T ct_slices_IndexFunc_Lint_int_ring_RightF1 N (bodyOf Try.f40) 19 p_slices_IndexFunc_Lint_int_ring_RightF1 [.h (.sl (.i .i64)), .k (.v (.func (.func 32) #[] #[]))] [] [(.sl (.i .i64))] r_slices_IndexFunc_Lint_int_ring_RightF1
noncomputable def c_slices_IndexFunc_Lint_int_ring_RightF1 (N : Nat) : Ctr := ⟨40, [.h (.sl (.i .i64)), .k (.v (.func (.func 32) #[] #[]))], [], [(.sl (.i .i64))], Tup r_slices_IndexFunc_Lint_int_ring_RightF1.c, m_slices_IndexFunc_Lint_int_ring_RightF1 N, fun y _ k => k (resG T (mkPS 19 r_slices_IndexFunc_Lint_int_ring_RightF1 y) Try.f40.results.toList) (keepH' [] (mkPS 19 r_slices_IndexFunc_Lint_int_ring_RightF1 y).h), false, true⟩
theorem l_slices_IndexFunc_Lint_int_ring_RightF1_1_z (N : Nat) (v : (List Int) × Int × Int) : l_slices_IndexFunc_Lint_int_ring_RightF1_1 N 0 v = none := by kernel_rfl
theorem l_slices_IndexFunc_Lint_int_ring_RightF1_1_s (N m : Nat) (s : (List Int)) (v7 : Int) (v8 : Int) : l_slices_IndexFunc_Lint_int_ring_RightF1_1 N (m + 1) (s, v7, v8) = cond (decide (v8 < v7))
   (obind (nthI s v8) fun z1 =>
    obind (m_ring_RightF1 N z1) fun z2 =>
    cond z2
     (some (.inr v8))
     ((l_slices_IndexFunc_Lint_int_ring_RightF1_1 N m (s, (v7, (IntKind.wrap .i64 (v8 + (1 : Int))))))))
   (some (.inl ())) := by kernel_rfl
theorem m_slices_IndexFunc_Lint_int_ring_RightF1_eq (N : Nat) (s : (List Int)) : m_slices_IndexFunc_Lint_int_ring_RightF1 (N + 1) (s) = obind (l_slices_IndexFunc_Lint_int_ring_RightF1_1 N N (s, ((((List.length s) : Nat) : Int), (0 : Int)))) fun z1 =>
  (match z1 with
  | .inl zy2 => some (-(1 : Int))
  | .inr zy3 => some zy3) := by kernel_rfl
theorem c_slices_IndexFunc_Lint_int_ring_RightF1_ok (N : Nat) : (c_slices_IndexFunc_Lint_int_ring_RightF1 N).ok Try.prog := exF_ok (T := T) (CT := ct_slices_IndexFunc_Lint_int_ring_RightF1) (N := N) (fun M => ⟨tOk, (ctAll_cons (c_ring_RightF1_ok M) ctAll_nil), mixed⟩) Try.func40 (by kernel_rfl) (by kernel_rfl) p_slices_IndexFunc_Lint_int_ring_RightF1 [.h (.sl (.i .i64)), .k (.v (.func (.func 32) #[] #[]))] [] [(.sl (.i .i64))] r_slices_IndexFunc_Lint_int_ring_RightF1 false true [] (by kernel_rfl) (fun y => by kernel_rfl) (fun _ => ⟨rfl, rfl⟩) (fun y => by kernel_rfl) (m_slices_IndexFunc_Lint_int_ring_RightF1 N) (fun x => by kernel_rfl)
/-! slices.ContainsFunc[[]int,int] -/
noncomputable def ct_slices_ContainsFunc_Lint_int_ring_RightF1 (N : Nat) : List Ctr := [c_slices_IndexFunc_Lint_int_ring_RightF1 N]
def p_slices_ContainsFunc_Lint_int_ring_RightF1 : Pl := .z
def r_slices_ContainsFunc_Lint_int_ring_RightF1 : PS := ⟨[(4, .h .b)], [], [.b]⟩
noncomputable def m_slices_ContainsFunc_Lint_int_ring_RightF1 (N : Nat) : (List Int) → Option (Bool) := exF T ct_slices_ContainsFunc_Lint_int_ring_RightF1 N (bodyOf Try.f33) 9 p_slices_ContainsFunc_Lint_int_ring_RightF1 [.h (.sl (.i .i64)), .k (.v (.func (.func 32) #[] #[]))] [] [(.sl (.i .i64))] r_slices_ContainsFunc_Lint_int_ring_RightF1
noncomputable def c_slices_ContainsFunc_Lint_int_ring_RightF1 (N : Nat) : Ctr := ⟨33, [.h (.sl (.i .i64)), .k (.v (.func (.func 32) #[] #[]))], [], [(.sl (.i .i64))], Tup r_slices_ContainsFunc_Lint_int_ring_RightF1.c, m_slices_ContainsFunc_Lint_int_ring_RightF1 N, fun y _ k => k (resG T (mkPS 9 r_slices_ContainsFunc_Lint_int_ring_RightF1 y) Try.f33.results.toList) (keepH' [] (mkPS 9 r_slices_ContainsFunc_Lint_int_ring_RightF1 y).h), false, true⟩
theorem m_slices_ContainsFunc_Lint_int_ring_RightF1_eq (N : Nat) (s : (List Int)) : m_slices_ContainsFunc_Lint_int_ring_RightF1 (N + 1) (s) = obind (m_slices_IndexFunc_Lint_int_ring_RightF1 N s) fun z1 =>
  some (decide ((0 : Int) ≤ z1)) := by kernel_rfl
theorem c_slices_ContainsFunc_Lint_int_ring_RightF1_ok (N : Nat) : (c_slices_ContainsFunc_Lint_int_ring_RightF1 N).ok Try.prog := exF_ok (T := T) (CT := ct_slices_ContainsFunc_Lint_int_ring_RightF1) (N := N) (fun M => ⟨tOk, (ctAll_cons (c_slices_IndexFunc_Lint_int_ring_RightF1_ok M) ctAll_nil), mixed⟩) Try.func33 (by kernel_rfl) (by kernel_rfl) p_slices_ContainsFunc_Lint_int_ring_RightF1 [.h (.sl (.i .i64)), .k (.v (.func (.func 32) #[] #[]))] [] [(.sl (.i .i64))] r_slices_ContainsFunc_Lint_int_ring_RightF1 false true [] (by kernel_rfl) (fun y => by kernel_rfl) (fun _ => ⟨rfl, rfl⟩) (fun y => by kernel_rfl) (m_slices_ContainsFunc_Lint_int_ring_RightF1 N) (fun x => by kernel_rfl)
/-! archipelago/ring.once[int] -/
noncomputable def ct_ring_once_int (N : Nat) : List Ctr := []
def i_ring_once_int_1 : PS := ⟨[(0, .h (.sl (.i .i64))), (3, .k (.mp 900)), (7, .h (.sl (.i .i64))), (8, .h (.i .i64)), (9, .h (.i .i64))], [(900, .mp (.int .i64) (.i .i64) (.i .i64))], [(.sl (.i .i64)), (.sl (.i .i64)), (.i .i64), (.i .i64), (.sl (.pr (.i .i64) (.i .i64)))]⟩
def o_ring_once_int_1 : List (Exit × PS) := [((.exit 0), ⟨[(0, .h (.sl (.i .i64))), (3, .k (.mp 900))], [(900, .mp (.int .i64) (.i .i64) (.i .i64))], [(.sl (.i .i64)), (.sl (.pr (.i .i64) (.i .i64)))]⟩)]
def p_ring_once_int_1 : Pl := .z
noncomputable def l_ring_once_int_1 (N : Nat) : Nat → (List Int) × (List Int) × Int × Int × (List (Int × Int)) → Option ((List Int) × (List (Int × Int))) := loopF (exC T (ct_ring_once_int N) N (codeAt [1, 1, 0, 1, 0, 0] (bodyOf Try.f34))) 23 i_ring_once_int_1 o_ring_once_int_1 p_ring_once_int_1
def p_ring_once_int : Pl := (.n .z (.n .z (.n (.n .z (.n (.loop i_ring_once_int_1 o_ring_once_int_1 p_ring_once_int_1) .z)) .z)))
def r_ring_once_int : PS := ⟨[(2, .h .b)], [], [.b]⟩
noncomputable def m_ring_once_int (N : Nat) : (List Int) → Option (Bool) := exF T ct_ring_once_int N (bodyOf Try.f34) 23 p_ring_once_int [.h (.sl (.i .i64))] [] [(.sl (.i .i64))] r_ring_once_int
noncomputable def c_ring_once_int (N : Nat) : Ctr := ⟨34, [.h (.sl (.i .i64))], [], [(.sl (.i .i64))], Tup r_ring_once_int.c, m_ring_once_int N, fun y _ k => k (resG T (mkPS 23 r_ring_once_int y) Try.f34.results.toList) (keepH' [] (mkPS 23 r_ring_once_int y).h), false, true⟩
theorem l_ring_once_int_1_z (N : Nat) (v : (List Int) × (List Int) × Int × Int × (List (Int × Int))) : l_ring_once_int_1 N 0 v = none := by kernel_rfl
theorem l_ring_once_int_1_s (N m : Nat) (l : (List Int)) (v7 : (List Int)) (v8 : Int) (v9 : Int) (met : (List (Int × Int))) : l_ring_once_int_1 N (m + 1) (l, v7, v8, v9, met) = cond (decide (v9 < v8))
   (obind (nthI v7 v9) fun z1 =>
    (l_ring_once_int_1 N m (l, (v7, (v8, ((IntKind.wrap .i64 (v9 + (1 : Int))), (mput (.i .i64) met z1 (IntKind.wrap .i64 ((Option.getD (mget (.i .i64) met z1) (0 : Int)) + (1 : Int))))))))))
   (some (l, met)) := by kernel_rfl
theorem m_ring_once_int_eq (N : Nat) (l : (List Int)) : m_ring_once_int (N + 1) (l) = obind (l_ring_once_int_1 N N (l, (l, ((((List.length l) : Nat) : Int), ((0 : Int), []))))) fun z1 =>
  some (decide ((((List.length z1.2) : Nat) : Int) = (((List.length z1.1) : Nat) : Int))) := by kernel_rfl
theorem c_ring_once_int_ok (N : Nat) : (c_ring_once_int N).ok Try.prog := exF_ok (T := T) (CT := ct_ring_once_int) (N := N) (fun M => ⟨tOk, ctAll_nil, mixed⟩) Try.func34 (by kernel_rfl) (by kernel_rfl) p_ring_once_int [.h (.sl (.i .i64))] [] [(.sl (.i .i64))] r_ring_once_int false true [] (by kernel_rfl) (fun y => by kernel_rfl) (fun _ => ⟨rfl, rfl⟩) (fun y => by kernel_rfl) (m_ring_once_int N) (fun x => by kernel_rfl)
/-! archipelago/ring.Right -/
noncomputable def ct_ring_Right (N : Nat) : List Ctr := [c_slices_ContainsFunc_Lint_int_ring_RightF1 N, c_ring_once_int N]
def p_ring_Right : Pl := .z
def r_ring_Right : PS := ⟨[(2, .h .b)], [], [.b]⟩
noncomputable def m_ring_Right (N : Nat) : (List Int) → Option (Bool) := exF T ct_ring_Right N (bodyOf Try.f20) 15 p_ring_Right [.h (.sl (.i .i64))] [] [(.sl (.i .i64))] r_ring_Right
noncomputable def c_ring_Right (N : Nat) : Ctr := ⟨20, [.h (.sl (.i .i64))], [], [(.sl (.i .i64))], Tup r_ring_Right.c, m_ring_Right N, fun y _ k => k (resG T (mkPS 15 r_ring_Right y) Try.f20.results.toList) (keepH' [] (mkPS 15 r_ring_Right y).h), false, true⟩
theorem m_ring_Right_eq (N : Nat) (l : (List Int)) : m_ring_Right (N + 1) (l) = cond (decide ((1000 : Int) < (((List.length l) : Nat) : Int)))
   (some false)
   (obind (m_slices_ContainsFunc_Lint_int_ring_RightF1 N l) fun z1 =>
    cond (!z1)
     (obind (m_ring_once_int N l) fun z2 =>
      some z2)
     (some false)) := by kernel_rfl
theorem c_ring_Right_ok (N : Nat) : (c_ring_Right N).ok Try.prog := exF_ok (T := T) (CT := ct_ring_Right) (N := N) (fun M => ⟨tOk, (ctAll_cons (c_slices_ContainsFunc_Lint_int_ring_RightF1_ok M) (ctAll_cons (c_ring_once_int_ok M) ctAll_nil)), mixed⟩) Try.func20 (by kernel_rfl) (by kernel_rfl) p_ring_Right [.h (.sl (.i .i64))] [] [(.sl (.i .i64))] r_ring_Right false true [] (by kernel_rfl) (fun y => by kernel_rfl) (fun _ => ⟨rfl, rfl⟩) (fun y => by kernel_rfl) (m_ring_Right N) (fun x => by kernel_rfl)
/-! slices.Index[[]int,int] -/
noncomputable def ct_slices_Index_Lint_int (N : Nat) : List Ctr := []
def i_slices_Index_Lint_int_1 : PS := ⟨[(0, .h (.sl (.i .i64))), (1, .h (.i .i64)), (7, .h (.i .i64)), (8, .h (.i .i64))], [], [(.sl (.i .i64)), (.i .i64), (.i .i64), (.i .i64)]⟩
def o_slices_Index_Lint_int_1 : List (Exit × PS) := [((.exit 0), ⟨[], [], []⟩), (.ret, ⟨[(4, .h (.i .i64))], [], [(.i .i64)]⟩)]
def p_slices_Index_Lint_int_1 : Pl := .z
noncomputable def l_slices_Index_Lint_int_1 (N : Nat) : Nat → (List Int) × Int × Int × Int → Option ((Unit) ⊕ (Int)) := loopF (exC T (ct_slices_Index_Lint_int N) N (codeAt [1, 0, 1, 0, 0] (bodyOf Try.f27))) 19 i_slices_Index_Lint_int_1 o_slices_Index_Lint_int_1 p_slices_Index_Lint_int_1
def p_slices_Index_Lint_int : Pl := (.n .z (.n (.n .z (.n (.loop i_slices_Index_Lint_int_1 o_slices_Index_Lint_int_1 p_slices_Index_Lint_int_1) .z)) .z))
def r_slices_Index_Lint_int : PS := ⟨[(4, .h (.i .i64))], [], [(.i .i64)]⟩
noncomputable def m_slices_Index_Lint_int (N : Nat) : (List Int) × Int → Option (Int) := exF T ct_slices_Index_Lint_int N (bodyOf Try.f27) 19 p_slices_Index_Lint_int [.h (.sl (.i .i64)), .h (.i .i64)] [] [(.sl (.i .i64)), (.i .i64)] r_slices_Index_Lint_int
noncomputable def c_slices_Index_Lint_int (N : Nat) : Ctr := ⟨27, [.h (.sl (.i .i64)), .h (.i .i64)], [], [(.sl (.i .i64)), (.i .i64)], Tup r_slices_Index_Lint_int.c, m_slices_Index_Lint_int N, fun y _ k => k (resG T (mkPS 19 r_slices_Index_Lint_int y) Try.f27.results.toList) (keepH' [] (mkPS 19 r_slices_Index_Lint_int y).h), false, true⟩
theorem l_slices_Index_Lint_int_1_z (N : Nat) (v : (List Int) × Int × Int × Int) : l_slices_Index_Lint_int_1 N 0 v = none := by kernel_rfl
theorem l_slices_Index_Lint_int_1_s (N m : Nat) (s : (List Int)) (v : Int) (v7 : Int) (v8 : Int) : l_slices_Index_Lint_int_1 N (m + 1) (s, v, v7, v8) = cond (decide (v8 < v7))
   (obind (nthI s v8) fun z1 =>
    cond (decide (v = z1))
     (some (.inr v8))
     ((l_slices_Index_Lint_int_1 N m (s, (v, (v7, (IntKind.wrap .i64 (v8 + (1 : Int)))))))))
   (some (.inl ())) := by kernel_rfl
theorem m_slices_Index_Lint_int_eq (N : Nat) (s : (List Int)) (v : Int) : m_slices_Index_Lint_int (N + 1) (s, v) = obind (l_slices_Index_Lint_int_1 N N (s, (v, ((((List.length s) : Nat) : Int), (0 : Int))))) fun z1 =>
  (match z1 with
  | .inl zy2 => some (-(1 : Int))
  | .inr zy3 => some zy3) := by kernel_rfl
theorem c_slices_Index_Lint_int_ok (N : Nat) : (c_slices_Index_Lint_int N).ok Try.prog := exF_ok (T := T) (CT := ct_slices_Index_Lint_int) (N := N) (fun M => ⟨tOk, ctAll_nil, mixed⟩) Try.func27 (by kernel_rfl) (by kernel_rfl) p_slices_Index_Lint_int [.h (.sl (.i .i64)), .h (.i .i64)] [] [(.sl (.i .i64)), (.i .i64)] r_slices_Index_Lint_int false true [] (by kernel_rfl) (fun y => by kernel_rfl) (fun _ => ⟨rfl, rfl⟩) (fun y => by kernel_rfl) (m_slices_Index_Lint_int N) (fun x => by kernel_rfl)
/-! slices.Contains[[]int,int] -/
noncomputable def ct_slices_Contains_Lint_int (N : Nat) : List Ctr := [c_slices_Index_Lint_int N]
def p_slices_Contains_Lint_int : Pl := .z
def r_slices_Contains_Lint_int : PS := ⟨[(4, .h .b)], [], [.b]⟩
noncomputable def m_slices_Contains_Lint_int (N : Nat) : (List Int) × Int → Option (Bool) := exF T ct_slices_Contains_Lint_int N (bodyOf Try.f36) 9 p_slices_Contains_Lint_int [.h (.sl (.i .i64)), .h (.i .i64)] [] [(.sl (.i .i64)), (.i .i64)] r_slices_Contains_Lint_int
noncomputable def c_slices_Contains_Lint_int (N : Nat) : Ctr := ⟨36, [.h (.sl (.i .i64)), .h (.i .i64)], [], [(.sl (.i .i64)), (.i .i64)], Tup r_slices_Contains_Lint_int.c, m_slices_Contains_Lint_int N, fun y _ k => k (resG T (mkPS 9 r_slices_Contains_Lint_int y) Try.f36.results.toList) (keepH' [] (mkPS 9 r_slices_Contains_Lint_int y).h), false, true⟩
theorem m_slices_Contains_Lint_int_eq (N : Nat) (s : (List Int)) (v : Int) : m_slices_Contains_Lint_int (N + 1) (s, v) = obind (m_slices_Index_Lint_int N (s, v)) fun z1 =>
  some (decide ((0 : Int) ≤ z1)) := by kernel_rfl
theorem c_slices_Contains_Lint_int_ok (N : Nat) : (c_slices_Contains_Lint_int N).ok Try.prog := exF_ok (T := T) (CT := ct_slices_Contains_Lint_int) (N := N) (fun M => ⟨tOk, (ctAll_cons (c_slices_Index_Lint_int_ok M) ctAll_nil), mixed⟩) Try.func36 (by kernel_rfl) (by kernel_rfl) p_slices_Contains_Lint_int [.h (.sl (.i .i64)), .h (.i .i64)] [] [(.sl (.i .i64)), (.i .i64)] r_slices_Contains_Lint_int false true [] (by kernel_rfl) (fun y => by kernel_rfl) (fun _ => ⟨rfl, rfl⟩) (fun y => by kernel_rfl) (m_slices_Contains_Lint_int N) (fun x => by kernel_rfl)
/-! archipelago/ring.places -/
noncomputable def ct_ring_places (N : Nat) : List Ctr := [c_ring_Right N, c_slices_Index_Lint_int N, c_slices_Contains_Lint_int N]
def i_ring_places_1 : PS := ⟨[(0, .h (.sl (.i .i64))), (6, .k (.ow 900)), (12, .h (.sl (.i .i64))), (13, .h (.i .i64)), (14, .h (.i .i64))], [(900, .arr 3 (.i .i64) true)], [(.sl (.i .i64)), (.sl (.i .i64)), (.i .i64), (.i .i64), (.sl (.i .i64))]⟩
def o_ring_places_1 : List (Exit × PS) := [((.exit 0), ⟨[(6, .k (.ow 900))], [(900, .arr 3 (.i .i64) true)], [(.sl (.i .i64))]⟩)]
def p_ring_places_1 : Pl := .z
noncomputable def l_ring_places_1 (N : Nat) : Nat → (List Int) × (List Int) × Int × Int × (List Int) → Option ((List Int)) := loopF (exC T (ct_ring_places N) N (codeAt [1, 1, 1, 0, 1, 0, 0] (bodyOf Try.f25))) 29 i_ring_places_1 o_ring_places_1 p_ring_places_1
def p_ring_places : Pl := (.n .z (.n .z (.n .z (.n (.n .z (.n (.loop i_ring_places_1 o_ring_places_1 p_ring_places_1) .z)) .z))))
def r_ring_places : PS := ⟨[(4, .k (.ow 900)), (5, .h .b)], [(900, .arr 3 (.i .i64) true)], [.b, (.sl (.i .i64))]⟩
noncomputable def m_ring_places (N : Nat) : (List Int) × (List Int) → Option (Bool × (List Int)) := exF T ct_ring_places N (bodyOf Try.f25) 29 p_ring_places [.h (.sl (.i .i64)), .h (.sl (.i .i64))] [] [(.sl (.i .i64)), (.sl (.i .i64))] r_ring_places
noncomputable def c_ring_places (N : Nat) : Ctr := ⟨25, [.h (.sl (.i .i64)), .h (.sl (.i .i64))], [], [(.sl (.i .i64)), (.sl (.i .i64))], Tup r_ring_places.c, m_ring_places N, fun y _ k => k (resG T (mkPS 29 r_ring_places y) Try.f25.results.toList) (keepH' [900] (mkPS 29 r_ring_places y).h), true, true⟩
theorem l_ring_places_1_z (N : Nat) (v : (List Int) × (List Int) × Int × Int × (List Int)) : l_ring_places_1 N 0 v = none := by kernel_rfl
theorem l_ring_places_1_s (N m : Nat) (l : (List Int)) (v12 : (List Int)) (v13 : Int) (v14 : Int) (v6 : (List Int)) : l_ring_places_1 N (m + 1) (l, v12, v13, v14, v6) = cond (decide (v14 < v13))
   (obind (nthI v12 v14) fun z1 =>
    obind (m_slices_Index_Lint_int N (l, z1)) fun z2 =>
    obind (appI (8 : Nat) v6 [z2]) fun z3 =>
    (l_ring_places_1 N m (l, (v12, (v13, ((IntKind.wrap .i64 (v14 + (1 : Int))), z3))))))
   (some v6) := by kernel_rfl
theorem m_ring_places_eq (N : Nat) (l : (List Int)) (tokens : (List Int)) : m_ring_places (N + 1) (l, tokens) = obind (m_ring_Right N l) fun z1 =>
  cond (!z1)
   (some (false, []))
   (obind (l_ring_places_1 N N (l, (tokens, ((((List.length tokens) : Nat) : Int), ((0 : Int), []))))) fun z2 =>
    obind (m_slices_Contains_Lint_int N (z2, (-(1 : Int)))) fun z3 =>
    some ((!z3), z2)) := by kernel_rfl
theorem c_ring_places_ok (N : Nat) : (c_ring_places N).ok Try.prog := exF_ok (T := T) (CT := ct_ring_places) (N := N) (fun M => ⟨tOk, (ctAll_cons (c_ring_Right_ok M) (ctAll_cons (c_slices_Index_Lint_int_ok M) (ctAll_cons (c_slices_Contains_Lint_int_ok M) ctAll_nil))), mixed⟩) Try.func25 (by kernel_rfl) (by kernel_rfl) p_ring_places [.h (.sl (.i .i64)), .h (.sl (.i .i64))] [] [(.sl (.i .i64)), (.sl (.i .i64))] r_ring_places true true [900] (by kernel_rfl) (fun y => by kernel_rfl) (fun h => by cases h) (fun y => by kernel_rfl) (m_ring_places N) (fun x => by kernel_rfl)
/-! slices.Concat[[]int,int] -/
noncomputable def ct_slices_Concat_Lint_int (N : Nat) : List Ctr := [c_slices_Grow_Lint_int N]
def i_slices_Concat_Lint_int_2 : PS := ⟨[(6, .k (.ow 900)), (25, .h (.sl (.sl (.i .i64)))), (26, .h (.i .i64)), (27, .h (.i .i64))], [(900, .arr 3 (.i .i64) true)], [(.sl (.sl (.i .i64))), (.i .i64), (.i .i64), (.sl (.i .i64))]⟩
def o_slices_Concat_Lint_int_2 : List (Exit × PS) := [((.exit 2), ⟨[(6, .k (.ow 900))], [(900, .arr 3 (.i .i64) true)], [(.sl (.i .i64))]⟩)]
def p_slices_Concat_Lint_int_2 : Pl := .z
noncomputable def l_slices_Concat_Lint_int_2 (N : Nat) : Nat → (List (List Int)) × Int × Int × (List Int) → Option ((List Int)) := loopF (exC T (ct_slices_Concat_Lint_int N) N (codeAt [1, 1, 1, 1, 0, 1, 0, 0] (bodyOf Try.f28))) 36 i_slices_Concat_Lint_int_2 o_slices_Concat_Lint_int_2 p_slices_Concat_Lint_int_2
def i_slices_Concat_Lint_int_1 : PS := ⟨[(0, .h (.sl (.sl (.i .i64)))), (3, .h (.i .i64)), (9, .h (.sl (.sl (.i .i64)))), (10, .h (.i .i64)), (11, .h (.i .i64))], [], [(.sl (.sl (.i .i64))), (.i .i64), (.sl (.sl (.i .i64))), (.i .i64), (.i .i64)]⟩
def o_slices_Concat_Lint_int_1 : List (Exit × PS) := [((.exit 0), ⟨[(0, .h (.sl (.sl (.i .i64)))), (3, .h (.i .i64))], [], [(.sl (.sl (.i .i64))), (.i .i64)]⟩)]
def p_slices_Concat_Lint_int_1 : Pl := .z
noncomputable def l_slices_Concat_Lint_int_1 (N : Nat) : Nat → (List (List Int)) × Int × (List (List Int)) × Int × Int → Option ((List (List Int)) × Int) := loopF (exC T (ct_slices_Concat_Lint_int N) N (codeAt [1, 1, 0, 1, 0, 0] (bodyOf Try.f28))) 36 i_slices_Concat_Lint_int_1 o_slices_Concat_Lint_int_1 p_slices_Concat_Lint_int_1
def p_slices_Concat_Lint_int : Pl := (.n .z (.n .z (.n (.n .z (.n (.loop i_slices_Concat_Lint_int_1 o_slices_Concat_Lint_int_1 p_slices_Concat_Lint_int_1) .z)) (.n .z (.n (.n .z (.n (.loop i_slices_Concat_Lint_int_2 o_slices_Concat_Lint_int_2 p_slices_Concat_Lint_int_2) .z)) .z)))))
def r_slices_Concat_Lint_int : PS := ⟨[(2, .k (.ow 900))], [(900, .arr 3 (.i .i64) true)], [(.sl (.i .i64))]⟩
noncomputable def m_slices_Concat_Lint_int (N : Nat) : (List (List Int)) → Option ((List Int)) := exF T ct_slices_Concat_Lint_int N (bodyOf Try.f28) 36 p_slices_Concat_Lint_int [.h (.sl (.sl (.i .i64)))] [] [(.sl (.sl (.i .i64)))] r_slices_Concat_Lint_int
noncomputable def c_slices_Concat_Lint_int (N : Nat) : Ctr := ⟨28, [.h (.sl (.sl (.i .i64)))], [], [(.sl (.sl (.i .i64)))], Tup r_slices_Concat_Lint_int.c, m_slices_Concat_Lint_int N, fun y _ k => k (resG T (mkPS 36 r_slices_Concat_Lint_int y) Try.f28.results.toList) (keepH' [900] (mkPS 36 r_slices_Concat_Lint_int y).h), true, true⟩
theorem l_slices_Concat_Lint_int_2_z (N : Nat) (v : (List (List Int)) × Int × Int × (List Int)) : l_slices_Concat_Lint_int_2 N 0 v = none := by kernel_rfl
theorem l_slices_Concat_Lint_int_2_s (N m : Nat) (v25 : (List (List Int))) (v26 : Int) (v27 : Int) (newslice : (List Int)) : l_slices_Concat_Lint_int_2 N (m + 1) (v25, v26, v27, newslice) = cond (decide (v27 < v26))
   (obind (nthI v25 v27) fun z1 =>
    obind (appI (8 : Nat) newslice z1) fun z2 =>
    (l_slices_Concat_Lint_int_2 N m (v25, (v26, ((IntKind.wrap .i64 (v27 + (1 : Int))), z2)))))
   (some newslice) := by kernel_rfl
theorem l_slices_Concat_Lint_int_1_z (N : Nat) (v : (List (List Int)) × Int × (List (List Int)) × Int × Int) : l_slices_Concat_Lint_int_1 N 0 v = none := by kernel_rfl
theorem l_slices_Concat_Lint_int_1_s (N m : Nat) (slices : (List (List Int))) (size : Int) (v9 : (List (List Int))) (v10 : Int) (v11 : Int) : l_slices_Concat_Lint_int_1 N (m + 1) (slices, size, v9, v10, v11) = cond (decide (v11 < v10))
   (obind (nthI v9 v11) fun z1 =>
    cond (decide ((IntKind.wrap .i64 (size + (((List.length z1) : Nat) : Int))) < (0 : Int)))
     (none)
     ((l_slices_Concat_Lint_int_1 N m (slices, ((IntKind.wrap .i64 (size + (((List.length z1) : Nat) : Int))), (v9, (v10, (IntKind.wrap .i64 (v11 + (1 : Int))))))))))
   (some (slices, size)) := by kernel_rfl
theorem m_slices_Concat_Lint_int_eq (N : Nat) (slices : (List (List Int))) : m_slices_Concat_Lint_int (N + 1) (slices) = obind (l_slices_Concat_Lint_int_1 N N (slices, ((0 : Int), (slices, ((((List.length slices) : Nat) : Int), (0 : Int)))))) fun z1 =>
  obind (m_slices_Grow_Lint_int N z1.2) fun z2 =>
  obind (l_slices_Concat_Lint_int_2 N N (z1.1, ((((List.length z1.1) : Nat) : Int), ((0 : Int), [])))) fun z3 =>
  some z3 := by kernel_rfl
theorem c_slices_Concat_Lint_int_ok (N : Nat) : (c_slices_Concat_Lint_int N).ok Try.prog := exF_ok (T := T) (CT := ct_slices_Concat_Lint_int) (N := N) (fun M => ⟨tOk, (ctAll_cons (c_slices_Grow_Lint_int_ok M) ctAll_nil), mixed⟩) Try.func28 (by kernel_rfl) (by kernel_rfl) p_slices_Concat_Lint_int [.h (.sl (.sl (.i .i64)))] [] [(.sl (.sl (.i .i64)))] r_slices_Concat_Lint_int true true [900] (by kernel_rfl) (fun y => by kernel_rfl) (fun h => by cases h) (fun y => by kernel_rfl) (m_slices_Concat_Lint_int N) (fun x => by kernel_rfl)
/-! slices.Clone[[]int,int] -/
noncomputable def ct_slices_Clone_Lint_int (N : Nat) : List Ctr := []
def p_slices_Clone_Lint_int : Pl := .z
def r_slices_Clone_Lint_int : PS := ⟨[(2, .k (.ow 900))], [(900, .arr 3 (.i .i64) true)], [(.sl (.i .i64))]⟩
noncomputable def m_slices_Clone_Lint_int (N : Nat) : (List Int) → Option ((List Int)) := exF T ct_slices_Clone_Lint_int N (bodyOf Try.f29) 8 p_slices_Clone_Lint_int [.h (.sl (.i .i64))] [] [(.sl (.i .i64))] r_slices_Clone_Lint_int
noncomputable def c_slices_Clone_Lint_int (N : Nat) : Ctr := ⟨29, [.h (.sl (.i .i64))], [], [(.sl (.i .i64))], Tup r_slices_Clone_Lint_int.c, m_slices_Clone_Lint_int N, fun y _ k => k (resG T (mkPS 8 r_slices_Clone_Lint_int y) Try.f29.results.toList) (keepH' [900] (mkPS 8 r_slices_Clone_Lint_int y).h), true, true⟩
theorem m_slices_Clone_Lint_int_eq (N : Nat) (s : (List Int)) : m_slices_Clone_Lint_int (N + 1) (s) = cond (isNilB s)
   (dem fun zb1 =>
    cond zb1
     (some [])
     (obind (appI (8 : Nat) [] s) fun z2 =>
      some z2))
   (obind (appI (8 : Nat) [] s) fun z3 =>
    some z3) := by kernel_rfl
theorem c_slices_Clone_Lint_int_ok (N : Nat) : (c_slices_Clone_Lint_int N).ok Try.prog := exF_ok (T := T) (CT := ct_slices_Clone_Lint_int) (N := N) (fun M => ⟨tOk, ctAll_nil, mixed⟩) Try.func29 (by kernel_rfl) (by kernel_rfl) p_slices_Clone_Lint_int [.h (.sl (.i .i64))] [] [(.sl (.i .i64))] r_slices_Clone_Lint_int true true [900] (by kernel_rfl) (fun y => by kernel_rfl) (fun h => by cases h) (fun y => by kernel_rfl) (m_slices_Clone_Lint_int N) (fun x => by kernel_rfl)
/-! archipelago/ring.Cut -/
noncomputable def ct_ring_Cut (N : Nat) : List Ctr := [c_ring_places N, c_slices_Concat_Lint_int N, c_slices_Clone_Lint_int N]
def p_ring_Cut : Pl := .z
def r_ring_Cut : PS := ⟨[(6, .k (.ow 900)), (7, .k (.ow 901)), (8, .h .b)], [(900, .arr 3 (.i .i64) true), (901, .arr 3 (.i .i64) true)], [.b, (.sl (.i .i64)), (.sl (.i .i64))]⟩
noncomputable def m_ring_Cut (N : Nat) : (List Int) × Int × Int → Option (Bool × (List Int) × (List Int)) := exF T ct_ring_Cut N (bodyOf Try.f11) 59 p_ring_Cut [.h (.sl (.i .i64)), .h (.i .i64), .h (.i .i64)] [] [(.sl (.i .i64)), (.i .i64), (.i .i64)] r_ring_Cut
noncomputable def c_ring_Cut (N : Nat) : Ctr := ⟨11, [.h (.sl (.i .i64)), .h (.i .i64), .h (.i .i64)], [], [(.sl (.i .i64)), (.i .i64), (.i .i64)], Tup r_ring_Cut.c, m_ring_Cut N, fun y _ k => k (resG T (mkPS 59 r_ring_Cut y) Try.f11.results.toList) (keepH' [900, 901] (mkPS 59 r_ring_Cut y).h), true, true⟩
theorem m_ring_Cut_eq (N : Nat) (l : (List Int)) (x : Int) (y : Int) : m_ring_Cut (N + 1) (l, x, y) = obind (m_ring_places N (l, [x, y])) fun z1 =>
  cond (!z1.1)
   (some (false, ([], [])))
   (obind (nthI z1.2 (0 : Int)) fun z2 =>
    obind (nthI z1.2 (0 : Int)) fun z3 =>
    obind (nthI z1.2 (1 : Int)) fun z4 =>
    obind (nthI z1.2 (1 : Int)) fun z5 =>
    cond (decide ((IntKind.wrap .i64 (z3 + (1 : Int))) < (IntKind.wrap .i64 (z5 + (1 : Int)))))
     (obind (subI l (0 : Int) (IntKind.wrap .i64 (z3 + (1 : Int)))) fun z6 =>
      obind (subI l (IntKind.wrap .i64 (z5 + (1 : Int))) (((List.length l) : Nat) : Int)) fun z7 =>
      obind (m_slices_Concat_Lint_int N [z6, z7]) fun z8 =>
      obind (subI l (IntKind.wrap .i64 (z3 + (1 : Int))) (IntKind.wrap .i64 (z5 + (1 : Int)))) fun z9 =>
      obind (m_slices_Clone_Lint_int N z9) fun z10 =>
      some (true, (z8, z10)))
     (obind (subI l (IntKind.wrap .i64 (z5 + (1 : Int))) (IntKind.wrap .i64 (z3 + (1 : Int)))) fun z11 =>
      obind (m_slices_Clone_Lint_int N z11) fun z12 =>
      obind (subI l (IntKind.wrap .i64 (z3 + (1 : Int))) (((List.length l) : Nat) : Int)) fun z13 =>
      obind (subI l (0 : Int) (IntKind.wrap .i64 (z5 + (1 : Int)))) fun z14 =>
      obind (m_slices_Concat_Lint_int N [z13, z14]) fun z15 =>
      some (true, (z12, z15)))) := by kernel_rfl
theorem c_ring_Cut_ok (N : Nat) : (c_ring_Cut N).ok Try.prog := exF_ok (T := T) (CT := ct_ring_Cut) (N := N) (fun M => ⟨tOk, (ctAll_cons (c_ring_places_ok M) (ctAll_cons (c_slices_Concat_Lint_int_ok M) (ctAll_cons (c_slices_Clone_Lint_int_ok M) ctAll_nil))), mixed⟩) Try.func11 (by kernel_rfl) (by kernel_rfl) p_ring_Cut [.h (.sl (.i .i64)), .h (.i .i64), .h (.i .i64)] [] [(.sl (.i .i64)), (.i .i64), (.i .i64)] r_ring_Cut true true [900, 901] (by kernel_rfl) (fun y => by kernel_rfl) (fun h => by cases h) (fun y => by kernel_rfl) (m_ring_Cut N) (fun x => by kernel_rfl)
/-! archipelago/ring.turned -/
noncomputable def ct_ring_turned (N : Nat) : List Ctr := [c_slices_Concat_Lint_int N]
def p_ring_turned : Pl := .z
def r_ring_turned : PS := ⟨[(4, .k (.ow 900))], [(900, .arr 3 (.i .i64) true)], [(.sl (.i .i64))]⟩
noncomputable def m_ring_turned (N : Nat) : (List Int) × Int → Option ((List Int)) := exF T ct_ring_turned N (bodyOf Try.f30) 13 p_ring_turned [.h (.sl (.i .i64)), .h (.i .i64)] [] [(.sl (.i .i64)), (.i .i64)] r_ring_turned
noncomputable def c_ring_turned (N : Nat) : Ctr := ⟨30, [.h (.sl (.i .i64)), .h (.i .i64)], [], [(.sl (.i .i64)), (.i .i64)], Tup r_ring_turned.c, m_ring_turned N, fun y _ k => k (resG T (mkPS 13 r_ring_turned y) Try.f30.results.toList) (keepH' [900] (mkPS 13 r_ring_turned y).h), true, true⟩
theorem m_ring_turned_eq (N : Nat) (l : (List Int)) (place : Int) : m_ring_turned (N + 1) (l, place) = obind (subI l place (((List.length l) : Nat) : Int)) fun z1 =>
  obind (subI l (0 : Int) place) fun z2 =>
  obind (m_slices_Concat_Lint_int N [z1, z2]) fun z3 =>
  some z3 := by kernel_rfl
theorem c_ring_turned_ok (N : Nat) : (c_ring_turned N).ok Try.prog := exF_ok (T := T) (CT := ct_ring_turned) (N := N) (fun M => ⟨tOk, (ctAll_cons (c_slices_Concat_Lint_int_ok M) ctAll_nil), mixed⟩) Try.func30 (by kernel_rfl) (by kernel_rfl) p_ring_turned [.h (.sl (.i .i64)), .h (.i .i64)] [] [(.sl (.i .i64)), (.i .i64)] r_ring_turned true true [900] (by kernel_rfl) (fun y => by kernel_rfl) (fun h => by cases h) (fun y => by kernel_rfl) (m_ring_turned N) (fun x => by kernel_rfl)
/-! archipelago/ring.From -/
noncomputable def ct_ring_From (N : Nat) : List Ctr := [c_ring_places N, c_ring_turned N]
def p_ring_From : Pl := .z
def r_ring_From : PS := ⟨[(4, .k (.ow 900)), (5, .h .b)], [(900, .arr 3 (.i .i64) true)], [.b, (.sl (.i .i64))]⟩
noncomputable def m_ring_From (N : Nat) : (List Int) × Int → Option (Bool × (List Int)) := exF T ct_ring_From N (bodyOf Try.f13) 22 p_ring_From [.h (.sl (.i .i64)), .h (.i .i64)] [] [(.sl (.i .i64)), (.i .i64)] r_ring_From
noncomputable def c_ring_From (N : Nat) : Ctr := ⟨13, [.h (.sl (.i .i64)), .h (.i .i64)], [], [(.sl (.i .i64)), (.i .i64)], Tup r_ring_From.c, m_ring_From N, fun y _ k => k (resG T (mkPS 22 r_ring_From y) Try.f13.results.toList) (keepH' [900] (mkPS 22 r_ring_From y).h), true, true⟩
theorem m_ring_From_eq (N : Nat) (l : (List Int)) (token : Int) : m_ring_From (N + 1) (l, token) = obind (m_ring_places N (l, [token])) fun z1 =>
  cond (!z1.1)
   (some (false, []))
   (obind (nthI z1.2 (0 : Int)) fun z2 =>
    obind (nthI z1.2 (0 : Int)) fun z3 =>
    obind (m_ring_turned N (l, z3)) fun z4 =>
    some (true, z4)) := by kernel_rfl
theorem c_ring_From_ok (N : Nat) : (c_ring_From N).ok Try.prog := exF_ok (T := T) (CT := ct_ring_From) (N := N) (fun M => ⟨tOk, (ctAll_cons (c_ring_places_ok M) (ctAll_cons (c_ring_turned_ok M) ctAll_nil)), mixed⟩) Try.func13 (by kernel_rfl) (by kernel_rfl) p_ring_From [.h (.sl (.i .i64)), .h (.i .i64)] [] [(.sl (.i .i64)), (.i .i64)] r_ring_From true true [900] (by kernel_rfl) (fun y => by kernel_rfl) (fun h => by cases h) (fun y => by kernel_rfl) (m_ring_From N) (fun x => by kernel_rfl)
/-! slices.Min[[]int,int] -/
noncomputable def ct_slices_Min_Lint_int (N : Nat) : List Ctr := []
def i_slices_Min_Lint_int_1 : PS := ⟨[(0, .h (.sl (.i .i64))), (3, .h (.i .i64)), (4, .h (.i .i64))], [], [(.sl (.i .i64)), (.i .i64), (.i .i64)]⟩
def o_slices_Min_Lint_int_1 : List (Exit × PS) := [((.exit 0), ⟨[(3, .h (.i .i64))], [], [(.i .i64)]⟩)]
def p_slices_Min_Lint_int_1 : Pl := .z
noncomputable def l_slices_Min_Lint_int_1 (N : Nat) : Nat → (List Int) × Int × Int → Option (Int) := loopF (exC T (ct_slices_Min_Lint_int N) N (codeAt [1, 1, 1, 0, 1, 0, 0] (bodyOf Try.f31))) 25 i_slices_Min_Lint_int_1 o_slices_Min_Lint_int_1 p_slices_Min_Lint_int_1
def p_slices_Min_Lint_int : Pl := (.n .z (.n .z (.n .z (.n (.n .z (.n (.loop i_slices_Min_Lint_int_1 o_slices_Min_Lint_int_1 p_slices_Min_Lint_int_1) .z)) .z))))
def r_slices_Min_Lint_int : PS := ⟨[(2, .h (.i .i64))], [], [(.i .i64)]⟩
noncomputable def m_slices_Min_Lint_int (N : Nat) : (List Int) → Option (Int) := exF T ct_slices_Min_Lint_int N (bodyOf Try.f31) 25 p_slices_Min_Lint_int [.h (.sl (.i .i64))] [] [(.sl (.i .i64))] r_slices_Min_Lint_int
noncomputable def c_slices_Min_Lint_int (N : Nat) : Ctr := ⟨31, [.h (.sl (.i .i64))], [], [(.sl (.i .i64))], Tup r_slices_Min_Lint_int.c, m_slices_Min_Lint_int N, fun y _ k => k (resG T (mkPS 25 r_slices_Min_Lint_int y) Try.f31.results.toList) (keepH' [] (mkPS 25 r_slices_Min_Lint_int y).h), false, true⟩
theorem l_slices_Min_Lint_int_1_z (N : Nat) (v : (List Int) × Int × Int) : l_slices_Min_Lint_int_1 N 0 v = none := by kernel_rfl
theorem l_slices_Min_Lint_int_1_s (N m : Nat) (x : (List Int)) (v3 : Int) (i : Int) : l_slices_Min_Lint_int_1 N (m + 1) (x, v3, i) = cond (decide (i < (((List.length x) : Nat) : Int)))
   (obind (nthI x i) fun z1 =>
    (l_slices_Min_Lint_int_1 N m (x, ((if (z1 < v3) then z1 else v3), (IntKind.wrap .i64 (i + (1 : Int)))))))
   (some v3) := by kernel_rfl
theorem m_slices_Min_Lint_int_eq (N : Nat) (x : (List Int)) : m_slices_Min_Lint_int (N + 1) (x) = cond (decide ((((List.length x) : Nat) : Int) < (1 : Int)))
   (none)
   (obind (nthI x (0 : Int)) fun z1 =>
    obind (l_slices_Min_Lint_int_1 N N (x, (z1, (1 : Int)))) fun z2 =>
    some z2) := by kernel_rfl
theorem c_slices_Min_Lint_int_ok (N : Nat) : (c_slices_Min_Lint_int N).ok Try.prog := exF_ok (T := T) (CT := ct_slices_Min_Lint_int) (N := N) (fun M => ⟨tOk, ctAll_nil, mixed⟩) Try.func31 (by kernel_rfl) (by kernel_rfl) p_slices_Min_Lint_int [.h (.sl (.i .i64))] [] [(.sl (.i .i64))] r_slices_Min_Lint_int false true [] (by kernel_rfl) (fun y => by kernel_rfl) (fun _ => ⟨rfl, rfl⟩) (fun y => by kernel_rfl) (m_slices_Min_Lint_int N) (fun x => by kernel_rfl)
/-! archipelago/ring.Plain -/
noncomputable def ct_ring_Plain (N : Nat) : List Ctr := [c_ring_Right N, c_slices_Min_Lint_int N, c_slices_Index_Lint_int N, c_ring_turned N]
def p_ring_Plain : Pl := .z
def r_ring_Plain : PS := ⟨[(2, .k (.ow 900))], [(900, .arr 3 (.i .i64) true)], [(.sl (.i .i64))]⟩
noncomputable def m_ring_Plain (N : Nat) : (List Int) → Option ((List Int)) := exF T ct_ring_Plain N (bodyOf Try.f18) 17 p_ring_Plain [.h (.sl (.i .i64))] [] [(.sl (.i .i64))] r_ring_Plain
noncomputable def c_ring_Plain (N : Nat) : Ctr := ⟨18, [.h (.sl (.i .i64))], [], [(.sl (.i .i64))], Tup r_ring_Plain.c, m_ring_Plain N, fun y _ k => k (resG T (mkPS 17 r_ring_Plain y) Try.f18.results.toList) (keepH' [900] (mkPS 17 r_ring_Plain y).h), true, true⟩
theorem m_ring_Plain_eq (N : Nat) (l : (List Int)) : m_ring_Plain (N + 1) (l) = obind (m_ring_Right N l) fun z1 =>
  cond (!z1)
   (some [])
   (cond (decide ((((List.length l) : Nat) : Int) = (0 : Int)))
     (some [])
     (obind (m_slices_Min_Lint_int N l) fun z2 =>
      obind (m_slices_Index_Lint_int N (l, z2)) fun z3 =>
      obind (m_ring_turned N (l, z3)) fun z4 =>
      some z4)) := by kernel_rfl
theorem c_ring_Plain_ok (N : Nat) : (c_ring_Plain N).ok Try.prog := exF_ok (T := T) (CT := ct_ring_Plain) (N := N) (fun M => ⟨tOk, (ctAll_cons (c_ring_Right_ok M) (ctAll_cons (c_slices_Min_Lint_int_ok M) (ctAll_cons (c_slices_Index_Lint_int_ok M) (ctAll_cons (c_ring_turned_ok M) ctAll_nil)))), mixed⟩) Try.func18 (by kernel_rfl) (by kernel_rfl) p_ring_Plain [.h (.sl (.i .i64))] [] [(.sl (.i .i64))] r_ring_Plain true true [900] (by kernel_rfl) (fun y => by kernel_rfl) (fun h => by cases h) (fun y => by kernel_rfl) (m_ring_Plain N) (fun x => by kernel_rfl)
/-! archipelago/ring.Join -/
noncomputable def ct_ring_Join (N : Nat) : List Ctr := [c_ring_places N, c_ring_From N, c_ring_Plain N, c_slices_Index_Lint_int N, c_slices_Insert_Lint_int_o_o N, c_ring_Right N]
def p_ring_Join : Pl := .z
def r_ring_Join : PS := ⟨[(8, .k (.ow 900)), (9, .h .b)], [(900, .arr 3 (.i .i64) true)], [.b, (.sl (.i .i64))]⟩
noncomputable def m_ring_Join (N : Nat) : (List Int) × Int × (List Int) × Int → Option (Bool × (List Int)) := exF T ct_ring_Join N (bodyOf Try.f9) 46 p_ring_Join [.h (.sl (.i .i64)), .h (.i .i64), .h (.sl (.i .i64)), .h (.i .i64)] [] [(.sl (.i .i64)), (.i .i64), (.sl (.i .i64)), (.i .i64)] r_ring_Join
noncomputable def c_ring_Join (N : Nat) : Ctr := ⟨9, [.h (.sl (.i .i64)), .h (.i .i64), .h (.sl (.i .i64)), .h (.i .i64)], [], [(.sl (.i .i64)), (.i .i64), (.sl (.i .i64)), (.i .i64)], Tup r_ring_Join.c, m_ring_Join N, fun y _ k => k (resG T (mkPS 46 r_ring_Join y) Try.f9.results.toList) (keepH' [900] (mkPS 46 r_ring_Join y).h), true, true⟩
theorem m_ring_Join_eq (N : Nat) (a : (List Int)) (x : Int) (b : (List Int)) (y : Int) : m_ring_Join (N + 1) (a, x, b, y) = obind (m_ring_places N (a, [x])) fun z1 =>
  cond (!z1.1)
   (some (false, []))
   (obind (m_ring_From N (b, y)) fun z2 =>
    cond (!z2.1)
     (some (false, []))
     (obind (m_ring_Plain N a) fun z3 =>
      obind (m_slices_Index_Lint_int N (z3, x)) fun z4 =>
      obind (m_slices_Insert_Lint_int_o_o N ((IntKind.wrap .i64 (z4 + (1 : Int))), (z3, z2.2))) fun z5 =>
      obind (m_ring_Right N z5) fun z6 =>
      cond (!z6)
       (some (false, []))
       (some (true, z5)))) := by kernel_rfl
theorem c_ring_Join_ok (N : Nat) : (c_ring_Join N).ok Try.prog := exF_ok (T := T) (CT := ct_ring_Join) (N := N) (fun M => ⟨tOk, (ctAll_cons (c_ring_places_ok M) (ctAll_cons (c_ring_From_ok M) (ctAll_cons (c_ring_Plain_ok M) (ctAll_cons (c_slices_Index_Lint_int_ok M) (ctAll_cons (c_slices_Insert_Lint_int_o_o_ok M) (ctAll_cons (c_ring_Right_ok M) ctAll_nil)))))), mixed⟩) Try.func9 (by kernel_rfl) (by kernel_rfl) p_ring_Join [.h (.sl (.i .i64)), .h (.i .i64), .h (.sl (.i .i64)), .h (.i .i64)] [] [(.sl (.i .i64)), (.i .i64), (.sl (.i .i64)), (.i .i64)] r_ring_Join true true [900] (by kernel_rfl) (fun y => by kernel_rfl) (fun h => by cases h) (fun y => by kernel_rfl) (m_ring_Join N) (fun x => by kernel_rfl)
/-! archipelago/ring.Next -/
noncomputable def ct_ring_Next (N : Nat) : List Ctr := [c_ring_places N]
def p_ring_Next : Pl := .z
def r_ring_Next : PS := ⟨[(6, .h (.i .i64)), (7, .h .b)], [], [(.i .i64), .b]⟩
noncomputable def m_ring_Next (N : Nat) : (List Int) × Int × Int → Option (Int × Bool) := exF T ct_ring_Next N (bodyOf Try.f15) 38 p_ring_Next [.h (.sl (.i .i64)), .h (.i .i64), .h (.i .i64)] [] [(.sl (.i .i64)), (.i .i64), (.i .i64)] r_ring_Next
noncomputable def c_ring_Next (N : Nat) : Ctr := ⟨15, [.h (.sl (.i .i64)), .h (.i .i64), .h (.i .i64)], [], [(.sl (.i .i64)), (.i .i64), (.i .i64)], Tup r_ring_Next.c, m_ring_Next N, fun y _ k => k (resG T (mkPS 38 r_ring_Next y) Try.f15.results.toList) (keepH' [] (mkPS 38 r_ring_Next y).h), false, true⟩
theorem m_ring_Next_eq (N : Nat) (l : (List Int)) (token : Int) (v2 : Int) : m_ring_Next (N + 1) (l, token, v2) = obind (m_ring_places N (l, [token])) fun z1 =>
  cond (!z1.1)
   (some ((0 : Int), false))
   (obind (nthI z1.2 (0 : Int)) fun z2 =>
    obind (nthI z1.2 (0 : Int)) fun z3 =>
    obind (remI v2 (((List.length l) : Nat) : Int)) fun z4 =>
    obind (remI (IntKind.wrap .i64 (z3 + z4)) (((List.length l) : Nat) : Int)) fun z5 =>
    obind (remI (IntKind.wrap .i64 (z5 + (((List.length l) : Nat) : Int))) (((List.length l) : Nat) : Int)) fun z6 =>
    obind (nthI l z6) fun z7 =>
    some (z7, true)) := by kernel_rfl
theorem c_ring_Next_ok (N : Nat) : (c_ring_Next N).ok Try.prog := exF_ok (T := T) (CT := ct_ring_Next) (N := N) (fun M => ⟨tOk, (ctAll_cons (c_ring_places_ok M) ctAll_nil), mixed⟩) Try.func15 (by kernel_rfl) (by kernel_rfl) p_ring_Next [.h (.sl (.i .i64)), .h (.i .i64), .h (.i .i64)] [] [(.sl (.i .i64)), (.i .i64), (.i .i64)] r_ring_Next false true [] (by kernel_rfl) (fun y => by kernel_rfl) (fun _ => ⟨rfl, rfl⟩) (fun y => by kernel_rfl) (m_ring_Next N) (fun x => by kernel_rfl)
/-! archipelago/archipelagoref01.Ints -/
noncomputable def ct_ref01_Ints (N : Nat) : List Ctr := []
def i_ref01_Ints_1 : PS := ⟨[(0, .h (.sl (.i .i64))), (1, .h (.sl (.i .i64))), (5, .h (.i .i64))], [], [(.sl (.i .i64)), (.sl (.i .i64)), (.i .i64)]⟩
def o_ref01_Ints_1 : List (Exit × PS) := [((.exit 0), ⟨[], [], []⟩), (.ret, ⟨[(4, .h .b)], [], [.b]⟩)]
def p_ref01_Ints_1 : Pl := .z
noncomputable def l_ref01_Ints_1 (N : Nat) : Nat → (List Int) × (List Int) × Int → Option ((Unit) ⊕ (Bool)) := loopF (exC T (ct_ref01_Ints N) N (codeAt [1, 1, 0, 1, 0, 0] (bodyOf Try.f17))) 26 i_ref01_Ints_1 o_ref01_Ints_1 p_ref01_Ints_1
def p_ref01_Ints : Pl := (.n .z (.n .z (.n (.n .z (.n (.loop i_ref01_Ints_1 o_ref01_Ints_1 p_ref01_Ints_1) .z)) .z)))
def r_ref01_Ints : PS := ⟨[(4, .h .b)], [], [.b]⟩
noncomputable def m_ref01_Ints (N : Nat) : (List Int) × (List Int) → Option (Bool) := exF T ct_ref01_Ints N (bodyOf Try.f17) 26 p_ref01_Ints [.h (.sl (.i .i64)), .h (.sl (.i .i64))] [] [(.sl (.i .i64)), (.sl (.i .i64))] r_ref01_Ints
noncomputable def c_ref01_Ints (N : Nat) : Ctr := ⟨17, [.h (.sl (.i .i64)), .h (.sl (.i .i64))], [], [(.sl (.i .i64)), (.sl (.i .i64))], Tup r_ref01_Ints.c, m_ref01_Ints N, fun y _ k => k (resG T (mkPS 26 r_ref01_Ints y) Try.f17.results.toList) (keepH' [] (mkPS 26 r_ref01_Ints y).h), false, true⟩
theorem l_ref01_Ints_1_z (N : Nat) (v : (List Int) × (List Int) × Int) : l_ref01_Ints_1 N 0 v = none := by kernel_rfl
theorem l_ref01_Ints_1_s (N m : Nat) (a : (List Int)) (b : (List Int)) (i : Int) : l_ref01_Ints_1 N (m + 1) (a, b, i) = cond (decide (i < (((List.length a) : Nat) : Int)))
   (obind (nthI a i) fun z1 =>
    obind (nthI b i) fun z2 =>
    cond (!(decide (z1 = z2)))
     (some (.inr false))
     ((l_ref01_Ints_1 N m (a, (b, (IntKind.wrap .i64 (i + (1 : Int))))))))
   (some (.inl ())) := by kernel_rfl
theorem m_ref01_Ints_eq (N : Nat) (a : (List Int)) (b : (List Int)) : m_ref01_Ints (N + 1) (a, b) = cond (!(decide ((((List.length a) : Nat) : Int) = (((List.length b) : Nat) : Int))))
   (some false)
   (obind (l_ref01_Ints_1 N N (a, (b, (0 : Int)))) fun z1 =>
    (match z1 with
    | .inl zy2 => some true
    | .inr zy3 => some zy3)) := by kernel_rfl
theorem c_ref01_Ints_ok (N : Nat) : (c_ref01_Ints N).ok Try.prog := exF_ok (T := T) (CT := ct_ref01_Ints) (N := N) (fun M => ⟨tOk, ctAll_nil, mixed⟩) Try.func17 (by kernel_rfl) (by kernel_rfl) p_ref01_Ints [.h (.sl (.i .i64)), .h (.sl (.i .i64))] [] [(.sl (.i .i64)), (.sl (.i .i64))] r_ref01_Ints false true [] (by kernel_rfl) (fun y => by kernel_rfl) (fun _ => ⟨rfl, rfl⟩) (fun y => by kernel_rfl) (m_ref01_Ints N) (fun x => by kernel_rfl)
/-! slices.Equal[[]int,int] -/
noncomputable def ct_slices_Equal_Lint_int (N : Nat) : List Ctr := []
def i_slices_Equal_Lint_int_1 : PS := ⟨[(0, .h (.sl (.i .i64))), (1, .h (.sl (.i .i64))), (12, .h (.i .i64)), (13, .h (.i .i64))], [], [(.sl (.i .i64)), (.sl (.i .i64)), (.i .i64), (.i .i64)]⟩
def o_slices_Equal_Lint_int_1 : List (Exit × PS) := [((.exit 0), ⟨[], [], []⟩), (.ret, ⟨[(4, .h .b)], [], [.b]⟩)]
def p_slices_Equal_Lint_int_1 : Pl := .z
noncomputable def l_slices_Equal_Lint_int_1 (N : Nat) : Nat → (List Int) × (List Int) × Int × Int → Option ((Unit) ⊕ (Bool)) := loopF (exC T (ct_slices_Equal_Lint_int N) N (codeAt [1, 1, 0, 1, 0, 0] (bodyOf Try.f35))) 26 i_slices_Equal_Lint_int_1 o_slices_Equal_Lint_int_1 p_slices_Equal_Lint_int_1
def p_slices_Equal_Lint_int : Pl := (.n .z (.n .z (.n (.n .z (.n (.loop i_slices_Equal_Lint_int_1 o_slices_Equal_Lint_int_1 p_slices_Equal_Lint_int_1) .z)) .z)))
def r_slices_Equal_Lint_int : PS := ⟨[(4, .h .b)], [], [.b]⟩
noncomputable def m_slices_Equal_Lint_int (N : Nat) : (List Int) × (List Int) → Option (Bool) := exF T ct_slices_Equal_Lint_int N (bodyOf Try.f35) 26 p_slices_Equal_Lint_int [.h (.sl (.i .i64)), .h (.sl (.i .i64))] [] [(.sl (.i .i64)), (.sl (.i .i64))] r_slices_Equal_Lint_int
noncomputable def c_slices_Equal_Lint_int (N : Nat) : Ctr := ⟨35, [.h (.sl (.i .i64)), .h (.sl (.i .i64))], [], [(.sl (.i .i64)), (.sl (.i .i64))], Tup r_slices_Equal_Lint_int.c, m_slices_Equal_Lint_int N, fun y _ k => k (resG T (mkPS 26 r_slices_Equal_Lint_int y) Try.f35.results.toList) (keepH' [] (mkPS 26 r_slices_Equal_Lint_int y).h), false, true⟩
theorem l_slices_Equal_Lint_int_1_z (N : Nat) (v : (List Int) × (List Int) × Int × Int) : l_slices_Equal_Lint_int_1 N 0 v = none := by kernel_rfl
theorem l_slices_Equal_Lint_int_1_s (N m : Nat) (s1 : (List Int)) (s2 : (List Int)) (v12 : Int) (v13 : Int) : l_slices_Equal_Lint_int_1 N (m + 1) (s1, s2, v12, v13) = cond (decide (v13 < v12))
   (obind (nthI s1 v13) fun z1 =>
    obind (nthI s2 v13) fun z2 =>
    cond (!(decide (z1 = z2)))
     (some (.inr false))
     ((l_slices_Equal_Lint_int_1 N m (s1, (s2, (v12, (IntKind.wrap .i64 (v13 + (1 : Int)))))))))
   (some (.inl ())) := by kernel_rfl
theorem m_slices_Equal_Lint_int_eq (N : Nat) (s1 : (List Int)) (s2 : (List Int)) : m_slices_Equal_Lint_int (N + 1) (s1, s2) = cond (!(decide ((((List.length s1) : Nat) : Int) = (((List.length s2) : Nat) : Int))))
   (some false)
   (obind (l_slices_Equal_Lint_int_1 N N (s1, (s2, ((((List.length s1) : Nat) : Int), (0 : Int))))) fun z1 =>
    (match z1 with
    | .inl zy2 => some true
    | .inr zy3 => some zy3)) := by kernel_rfl
theorem c_slices_Equal_Lint_int_ok (N : Nat) : (c_slices_Equal_Lint_int N).ok Try.prog := exF_ok (T := T) (CT := ct_slices_Equal_Lint_int) (N := N) (fun M => ⟨tOk, ctAll_nil, mixed⟩) Try.func35 (by kernel_rfl) (by kernel_rfl) p_slices_Equal_Lint_int [.h (.sl (.i .i64)), .h (.sl (.i .i64))] [] [(.sl (.i .i64)), (.sl (.i .i64))] r_slices_Equal_Lint_int false true [] (by kernel_rfl) (fun y => by kernel_rfl) (fun _ => ⟨rfl, rfl⟩) (fun y => by kernel_rfl) (m_slices_Equal_Lint_int N) (fun x => by kernel_rfl)
/-! archipelago/ring.Same -/
noncomputable def ct_ring_Same (N : Nat) : List Ctr := [c_ring_Right N, c_ring_Plain N, c_slices_Equal_Lint_int N]
def p_ring_Same : Pl := .z
def r_ring_Same : PS := ⟨[(4, .h .b)], [], [.b]⟩
noncomputable def m_ring_Same (N : Nat) : (List Int) × (List Int) → Option (Bool) := exF T ct_ring_Same N (bodyOf Try.f22) 18 p_ring_Same [.h (.sl (.i .i64)), .h (.sl (.i .i64))] [] [(.sl (.i .i64)), (.sl (.i .i64))] r_ring_Same
noncomputable def c_ring_Same (N : Nat) : Ctr := ⟨22, [.h (.sl (.i .i64)), .h (.sl (.i .i64))], [], [(.sl (.i .i64)), (.sl (.i .i64))], Tup r_ring_Same.c, m_ring_Same N, fun y _ k => k (resG T (mkPS 18 r_ring_Same y) Try.f22.results.toList) (keepH' [] (mkPS 18 r_ring_Same y).h), false, true⟩
theorem m_ring_Same_eq (N : Nat) (a : (List Int)) (b : (List Int)) : m_ring_Same (N + 1) (a, b) = obind (m_ring_Right N a) fun z1 =>
  cond z1
   (obind (m_ring_Right N b) fun z2 =>
    cond z2
     (obind (m_ring_Plain N a) fun z3 =>
      obind (m_ring_Plain N b) fun z4 =>
      obind (m_slices_Equal_Lint_int N (z3, z4)) fun z5 =>
      some z5)
     (some false))
   (some false) := by kernel_rfl
theorem c_ring_Same_ok (N : Nat) : (c_ring_Same N).ok Try.prog := exF_ok (T := T) (CT := ct_ring_Same) (N := N) (fun M => ⟨tOk, (ctAll_cons (c_ring_Right_ok M) (ctAll_cons (c_ring_Plain_ok M) (ctAll_cons (c_slices_Equal_Lint_int_ok M) ctAll_nil))), mixed⟩) Try.func22 (by kernel_rfl) (by kernel_rfl) p_ring_Same [.h (.sl (.i .i64)), .h (.sl (.i .i64))] [] [(.sl (.i .i64)), (.sl (.i .i64))] r_ring_Same false true [] (by kernel_rfl) (fun y => by kernel_rfl) (fun _ => ⟨rfl, rfl⟩) (fun y => by kernel_rfl) (m_ring_Same N) (fun x => by kernel_rfl)
/-! archipelago/archipelagolaw13.alive -/
noncomputable def ct_law13_alive (N : Nat) : List Ctr := [c_ring_Cut N, c_ring_Join N, c_ring_From N, c_ring_Next N, c_ref01_Ints N, c_ring_Same N, c_ring_Right N, c_ring_Plain N]
def p_law13_alive : Pl := .z
def r_law13_alive : PS := ⟨[(0, .h .b)], [], [.b]⟩
noncomputable def m_law13_alive (N : Nat) : Unit → Option (Bool) := exF T ct_law13_alive N (bodyOf Try.f8) 100 p_law13_alive [] [] [] r_law13_alive
noncomputable def c_law13_alive (N : Nat) : Ctr := ⟨8, [], [], [], Tup r_law13_alive.c, m_law13_alive N, fun y _ k => k (resG T (mkPS 100 r_law13_alive y) Try.f8.results.toList) (keepH' [] (mkPS 100 r_law13_alive y).h), false, true⟩
theorem m_law13_alive_eq (N : Nat) : m_law13_alive (N + 1) () = obind (m_ring_Cut N ([(2 : Int), (3 : Int), (0 : Int), (1 : Int)], ((1 : Int), (2 : Int)))) fun z1 =>
  obind (m_ring_Join N (z1.2.1, ((1 : Int), (z1.2.2, (2 : Int))))) fun z2 =>
  obind (m_ring_From N ([(2 : Int), (3 : Int), (0 : Int), (1 : Int)], (0 : Int))) fun z3 =>
  obind (m_ring_Next N ([(2 : Int), (3 : Int), (0 : Int), (1 : Int)], ((1 : Int), (2 : Int)))) fun z4 =>
  obind (m_ring_Join N ([(2 : Int), (3 : Int), (0 : Int), (1 : Int)], ((1 : Int), ([(3 : Int)], (3 : Int))))) fun z5 =>
  cond z1.1
   (cond z2.1
     (cond z3.1
       (cond z4.2
         (cond (!z5.1)
           (obind (m_ref01_Ints N (z1.2.1, [(3 : Int), (0 : Int), (1 : Int)])) fun z6 =>
            cond z6
             (obind (m_ref01_Ints N (z1.2.2, [(2 : Int)])) fun z7 =>
              cond z7
               (obind (m_ref01_Ints N (z2.2, [(0 : Int), (1 : Int), (2 : Int), (3 : Int)])) fun z8 =>
                cond z8
                 (obind (m_ref01_Ints N (z3.2, [(0 : Int), (1 : Int), (2 : Int), (3 : Int)])) fun z9 =>
                  cond z9
                   (cond (decide (z4.1 = (3 : Int)))
                     (obind (m_ring_Same N ([(2 : Int), (3 : Int), (0 : Int), (1 : Int)], z2.2)) fun z10 =>
                      cond z10
                       (obind (m_ring_Right N [(2 : Int), (3 : Int), (0 : Int), (1 : Int)]) fun z11 =>
                        cond z11
                         (obind (m_ring_Right N [(1 : Int), (1 : Int)]) fun z12 =>
                          cond (!z12)
                           (obind (m_ring_Plain N [(2 : Int), (3 : Int), (0 : Int), (1 : Int)]) fun z13 =>
                            obind (m_ref01_Ints N (z13, z3.2)) fun z14 =>
                            some z14)
                           (some false))
                         (some false))
                       (some false))
                     (some false))
                   (some false))
                 (some false))
               (some false))
             (some false))
           (some false))
         (some false))
       (some false))
     (some false))
   (some false) := by kernel_rfl
theorem c_law13_alive_ok (N : Nat) : (c_law13_alive N).ok Try.prog := exF_ok (T := T) (CT := ct_law13_alive) (N := N) (fun M => ⟨tOk, (ctAll_cons (c_ring_Cut_ok M) (ctAll_cons (c_ring_Join_ok M) (ctAll_cons (c_ring_From_ok M) (ctAll_cons (c_ring_Next_ok M) (ctAll_cons (c_ref01_Ints_ok M) (ctAll_cons (c_ring_Same_ok M) (ctAll_cons (c_ring_Right_ok M) (ctAll_cons (c_ring_Plain_ok M) ctAll_nil)))))))), mixed⟩) Try.func8 (by kernel_rfl) (by kernel_rfl) p_law13_alive [] [] [] r_law13_alive false true [] (by kernel_rfl) (fun y => by kernel_rfl) (fun _ => ⟨rfl, rfl⟩) (fun y => by kernel_rfl) (m_law13_alive N) (fun x => by kernel_rfl)
/-! archipelago/archipelagoref13.Place -/
noncomputable def ct_ref13_Place (N : Nat) : List Ctr := []
def i_ref13_Place_1 : PS := ⟨[(0, .h (.sl (.i .i64))), (1, .h (.i .i64)), (5, .h (.i .i64))], [], [(.sl (.i .i64)), (.i .i64), (.i .i64)]⟩
def o_ref13_Place_1 : List (Exit × PS) := [((.exit 0), ⟨[], [], []⟩), (.ret, ⟨[(4, .h (.i .i64))], [], [(.i .i64)]⟩)]
def p_ref13_Place_1 : Pl := .z
noncomputable def l_ref13_Place_1 (N : Nat) : Nat → (List Int) × Int × Int → Option ((Unit) ⊕ (Int)) := loopF (exC T (ct_ref13_Place N) N (codeAt [1, 0, 1, 0, 0] (bodyOf Try.f24))) 19 i_ref13_Place_1 o_ref13_Place_1 p_ref13_Place_1
def p_ref13_Place : Pl := (.n .z (.n (.n .z (.n (.loop i_ref13_Place_1 o_ref13_Place_1 p_ref13_Place_1) .z)) .z))
def r_ref13_Place : PS := ⟨[(4, .h (.i .i64))], [], [(.i .i64)]⟩
noncomputable def m_ref13_Place (N : Nat) : (List Int) × Int → Option (Int) := exF T ct_ref13_Place N (bodyOf Try.f24) 19 p_ref13_Place [.h (.sl (.i .i64)), .h (.i .i64)] [] [(.sl (.i .i64)), (.i .i64)] r_ref13_Place
noncomputable def c_ref13_Place (N : Nat) : Ctr := ⟨24, [.h (.sl (.i .i64)), .h (.i .i64)], [], [(.sl (.i .i64)), (.i .i64)], Tup r_ref13_Place.c, m_ref13_Place N, fun y _ k => k (resG T (mkPS 19 r_ref13_Place y) Try.f24.results.toList) (keepH' [] (mkPS 19 r_ref13_Place y).h), false, true⟩
theorem l_ref13_Place_1_z (N : Nat) (v : (List Int) × Int × Int) : l_ref13_Place_1 N 0 v = none := by kernel_rfl
theorem l_ref13_Place_1_s (N m : Nat) (l : (List Int)) (token : Int) (i : Int) : l_ref13_Place_1 N (m + 1) (l, token, i) = cond (decide (i < (((List.length l) : Nat) : Int)))
   (obind (nthI l i) fun z1 =>
    cond (decide (z1 = token))
     (some (.inr i))
     ((l_ref13_Place_1 N m (l, (token, (IntKind.wrap .i64 (i + (1 : Int))))))))
   (some (.inl ())) := by kernel_rfl
theorem m_ref13_Place_eq (N : Nat) (l : (List Int)) (token : Int) : m_ref13_Place (N + 1) (l, token) = obind (l_ref13_Place_1 N N (l, (token, (0 : Int)))) fun z1 =>
  (match z1 with
  | .inl zy2 => some (-(1 : Int))
  | .inr zy3 => some zy3) := by kernel_rfl
theorem c_ref13_Place_ok (N : Nat) : (c_ref13_Place N).ok Try.prog := exF_ok (T := T) (CT := ct_ref13_Place) (N := N) (fun M => ⟨tOk, ctAll_nil, mixed⟩) Try.func24 (by kernel_rfl) (by kernel_rfl) p_ref13_Place [.h (.sl (.i .i64)), .h (.i .i64)] [] [(.sl (.i .i64)), (.i .i64)] r_ref13_Place false true [] (by kernel_rfl) (fun y => by kernel_rfl) (fun _ => ⟨rfl, rfl⟩) (fun y => by kernel_rfl) (m_ref13_Place N) (fun x => by kernel_rfl)
/-! archipelago/archipelagoref13.Right -/
noncomputable def ct_ref13_Right (N : Nat) : List Ctr := [c_ref13_Place N]
def i_ref13_Right_1 : PS := ⟨[(0, .h (.sl (.i .i64))), (3, .h (.i .i64))], [], [(.sl (.i .i64)), (.i .i64)]⟩
def o_ref13_Right_1 : List (Exit × PS) := [((.exit 0), ⟨[], [], []⟩), (.ret, ⟨[(2, .h .b)], [], [.b]⟩)]
def p_ref13_Right_1 : Pl := .z
noncomputable def l_ref13_Right_1 (N : Nat) : Nat → (List Int) × Int → Option ((Unit) ⊕ (Bool)) := loopF (exC T (ct_ref13_Right N) N (codeAt [1, 1, 0, 1, 0, 0] (bodyOf Try.f21))) 36 i_ref13_Right_1 o_ref13_Right_1 p_ref13_Right_1
def p_ref13_Right : Pl := (.n .z (.n .z (.n (.n .z (.n (.loop i_ref13_Right_1 o_ref13_Right_1 p_ref13_Right_1) .z)) .z)))
def r_ref13_Right : PS := ⟨[(2, .h .b)], [], [.b]⟩
noncomputable def m_ref13_Right (N : Nat) : (List Int) → Option (Bool) := exF T ct_ref13_Right N (bodyOf Try.f21) 36 p_ref13_Right [.h (.sl (.i .i64))] [] [(.sl (.i .i64))] r_ref13_Right
noncomputable def c_ref13_Right (N : Nat) : Ctr := ⟨21, [.h (.sl (.i .i64))], [], [(.sl (.i .i64))], Tup r_ref13_Right.c, m_ref13_Right N, fun y _ k => k (resG T (mkPS 36 r_ref13_Right y) Try.f21.results.toList) (keepH' [] (mkPS 36 r_ref13_Right y).h), false, true⟩
theorem l_ref13_Right_1_z (N : Nat) (v : (List Int) × Int) : l_ref13_Right_1 N 0 v = none := by kernel_rfl
theorem l_ref13_Right_1_s (N m : Nat) (l : (List Int)) (i : Int) : l_ref13_Right_1 N (m + 1) (l, i) = cond (decide (i < (((List.length l) : Nat) : Int)))
   (obind (nthI l i) fun z1 =>
    cond (decide (z1 < (0 : Int)))
     (some (.inr false))
     (obind (nthI l i) fun z2 =>
      cond (decide ((10000 : Int) < z2))
       (some (.inr false))
       (obind (subI l (0 : Int) i) fun z3 =>
        obind (nthI l i) fun z4 =>
        obind (m_ref13_Place N (z3, z4)) fun z5 =>
        cond (decide ((0 : Int) ≤ z5))
         (some (.inr false))
         ((l_ref13_Right_1 N m (l, (IntKind.wrap .i64 (i + (1 : Int)))))))))
   (some (.inl ())) := by kernel_rfl
theorem m_ref13_Right_eq (N : Nat) (l : (List Int)) : m_ref13_Right (N + 1) (l) = cond (decide ((1000 : Int) < (((List.length l) : Nat) : Int)))
   (some false)
   (obind (l_ref13_Right_1 N N (l, (0 : Int))) fun z1 =>
    (match z1 with
    | .inl zy2 => some true
    | .inr zy3 => some zy3)) := by kernel_rfl
theorem c_ref13_Right_ok (N : Nat) : (c_ref13_Right N).ok Try.prog := exF_ok (T := T) (CT := ct_ref13_Right) (N := N) (fun M => ⟨tOk, (ctAll_cons (c_ref13_Place_ok M) ctAll_nil), mixed⟩) Try.func21 (by kernel_rfl) (by kernel_rfl) p_ref13_Right [.h (.sl (.i .i64))] [] [(.sl (.i .i64))] r_ref13_Right false true [] (by kernel_rfl) (fun y => by kernel_rfl) (fun _ => ⟨rfl, rfl⟩) (fun y => by kernel_rfl) (m_ref13_Right N) (fun x => by kernel_rfl)
/-! archipelago/archipelagoref13.From -/
noncomputable def ct_ref13_From (N : Nat) : List Ctr := [c_ref13_Place N, c_ref13_Right N]
def p_ref13_From : Pl := .z
def r_ref13_From : PS := ⟨[(4, .k (.ow 900)), (5, .h .b)], [(900, .arr 3 (.i .i64) true)], [.b, (.sl (.i .i64))]⟩
noncomputable def m_ref13_From (N : Nat) : (List Int) × Int → Option (Bool × (List Int)) := exF T ct_ref13_From N (bodyOf Try.f14) 26 p_ref13_From [.h (.sl (.i .i64)), .h (.i .i64)] [] [(.sl (.i .i64)), (.i .i64)] r_ref13_From
noncomputable def c_ref13_From (N : Nat) : Ctr := ⟨14, [.h (.sl (.i .i64)), .h (.i .i64)], [], [(.sl (.i .i64)), (.i .i64)], Tup r_ref13_From.c, m_ref13_From N, fun y _ k => k (resG T (mkPS 26 r_ref13_From y) Try.f14.results.toList) (keepH' [900] (mkPS 26 r_ref13_From y).h), true, true⟩
theorem m_ref13_From_eq (N : Nat) (l : (List Int)) (token : Int) : m_ref13_From (N + 1) (l, token) = obind (m_ref13_Place N (l, token)) fun z1 =>
  obind (m_ref13_Right N l) fun z2 =>
  cond (!z2)
   (some (false, []))
   (cond (decide (z1 < (0 : Int)))
     (some (false, []))
     (obind (subI l z1 (((List.length l) : Nat) : Int)) fun z3 =>
      obind (appI (8 : Nat) [] z3) fun z4 =>
      obind (subI l (0 : Int) z1) fun z5 =>
      obind (appI (8 : Nat) z4 z5) fun z6 =>
      some (true, z6))) := by kernel_rfl
theorem c_ref13_From_ok (N : Nat) : (c_ref13_From N).ok Try.prog := exF_ok (T := T) (CT := ct_ref13_From) (N := N) (fun M => ⟨tOk, (ctAll_cons (c_ref13_Place_ok M) (ctAll_cons (c_ref13_Right_ok M) ctAll_nil)), mixed⟩) Try.func14 (by kernel_rfl) (by kernel_rfl) p_ref13_From [.h (.sl (.i .i64)), .h (.i .i64)] [] [(.sl (.i .i64)), (.i .i64)] r_ref13_From true true [900] (by kernel_rfl) (fun y => by kernel_rfl) (fun h => by cases h) (fun y => by kernel_rfl) (m_ref13_From N) (fun x => by kernel_rfl)
/-! archipelago/archipelagoref13.Plain -/
noncomputable def ct_ref13_Plain (N : Nat) : List Ctr := [c_ref13_Right N, c_ref13_From N]
def i_ref13_Plain_1 : PS := ⟨[(0, .h (.sl (.i .i64))), (3, .h (.i .i64)), (4, .h (.i .i64))], [], [(.sl (.i .i64)), (.i .i64), (.i .i64)]⟩
def o_ref13_Plain_1 : List (Exit × PS) := [((.exit 0), ⟨[(0, .h (.sl (.i .i64))), (3, .h (.i .i64))], [], [(.sl (.i .i64)), (.i .i64)]⟩)]
def p_ref13_Plain_1 : Pl := .z
noncomputable def l_ref13_Plain_1 (N : Nat) : Nat → (List Int) × Int × Int → Option ((List Int) × Int) := loopF (exC T (ct_ref13_Plain N) N (codeAt [1, 1, 1, 0, 1, 0, 0] (bodyOf Try.f19))) 37 i_ref13_Plain_1 o_ref13_Plain_1 p_ref13_Plain_1
def p_ref13_Plain : Pl := (.n .z (.n .z (.n .z (.n (.n .z (.n (.loop i_ref13_Plain_1 o_ref13_Plain_1 p_ref13_Plain_1) .z)) .z))))
def r_ref13_Plain : PS := ⟨[(2, .k (.ow 900))], [(900, .arr 3 (.i .i64) true)], [(.sl (.i .i64))]⟩
noncomputable def m_ref13_Plain (N : Nat) : (List Int) → Option ((List Int)) := exF T ct_ref13_Plain N (bodyOf Try.f19) 37 p_ref13_Plain [.h (.sl (.i .i64))] [] [(.sl (.i .i64))] r_ref13_Plain
noncomputable def c_ref13_Plain (N : Nat) : Ctr := ⟨19, [.h (.sl (.i .i64))], [], [(.sl (.i .i64))], Tup r_ref13_Plain.c, m_ref13_Plain N, fun y _ k => k (resG T (mkPS 37 r_ref13_Plain y) Try.f19.results.toList) (keepH' [900] (mkPS 37 r_ref13_Plain y).h), true, true⟩
theorem l_ref13_Plain_1_z (N : Nat) (v : (List Int) × Int × Int) : l_ref13_Plain_1 N 0 v = none := by kernel_rfl
theorem l_ref13_Plain_1_s (N m : Nat) (l : (List Int)) (least : Int) (i : Int) : l_ref13_Plain_1 N (m + 1) (l, least, i) = cond (decide (i < (((List.length l) : Nat) : Int)))
   (obind (nthI l i) fun z1 =>
    (l_ref13_Plain_1 N m (l, ((if (z1 < least) then z1 else least), (IntKind.wrap .i64 (i + (1 : Int)))))))
   (some (l, least)) := by kernel_rfl
theorem m_ref13_Plain_eq (N : Nat) (l : (List Int)) : m_ref13_Plain (N + 1) (l) = obind (m_ref13_Right N l) fun z1 =>
  cond (!z1)
   (some [])
   (cond (decide ((((List.length l) : Nat) : Int) = (0 : Int)))
     (some [])
     (obind (nthI l (0 : Int)) fun z2 =>
      obind (l_ref13_Plain_1 N N (l, (z2, (0 : Int)))) fun z3 =>
      obind (m_ref13_From N (z3.1, z3.2)) fun z4 =>
      some z4.2)) := by kernel_rfl
theorem c_ref13_Plain_ok (N : Nat) : (c_ref13_Plain N).ok Try.prog := exF_ok (T := T) (CT := ct_ref13_Plain) (N := N) (fun M => ⟨tOk, (ctAll_cons (c_ref13_Right_ok M) (ctAll_cons (c_ref13_From_ok M) ctAll_nil)), mixed⟩) Try.func19 (by kernel_rfl) (by kernel_rfl) p_ref13_Plain [.h (.sl (.i .i64))] [] [(.sl (.i .i64))] r_ref13_Plain true true [900] (by kernel_rfl) (fun y => by kernel_rfl) (fun h => by cases h) (fun y => by kernel_rfl) (m_ref13_Plain N) (fun x => by kernel_rfl)
/-! archipelago/archipelagoref13.Join -/
noncomputable def ct_ref13_Join (N : Nat) : List Ctr := [c_ref13_From N, c_ref13_Right N, c_ref13_Place N, c_ref13_Plain N]
def p_ref13_Join : Pl := .z
def r_ref13_Join : PS := ⟨[(8, .k (.ow 900)), (9, .h .b)], [(900, .arr 3 (.i .i64) true)], [.b, (.sl (.i .i64))]⟩
noncomputable def m_ref13_Join (N : Nat) : (List Int) × Int × (List Int) × Int → Option (Bool × (List Int)) := exF T ct_ref13_Join N (bodyOf Try.f10) 55 p_ref13_Join [.h (.sl (.i .i64)), .h (.i .i64), .h (.sl (.i .i64)), .h (.i .i64)] [] [(.sl (.i .i64)), (.i .i64), (.sl (.i .i64)), (.i .i64)] r_ref13_Join
noncomputable def c_ref13_Join (N : Nat) : Ctr := ⟨10, [.h (.sl (.i .i64)), .h (.i .i64), .h (.sl (.i .i64)), .h (.i .i64)], [], [(.sl (.i .i64)), (.i .i64), (.sl (.i .i64)), (.i .i64)], Tup r_ref13_Join.c, m_ref13_Join N, fun y _ k => k (resG T (mkPS 55 r_ref13_Join y) Try.f10.results.toList) (keepH' [900] (mkPS 55 r_ref13_Join y).h), true, true⟩
theorem m_ref13_Join_eq (N : Nat) (a : (List Int)) (x : Int) (b : (List Int)) (y : Int) : m_ref13_Join (N + 1) (a, x, b, y) = obind (m_ref13_From N (b, y)) fun z1 =>
  obind (m_ref13_Right N a) fun z2 =>
  cond (!z2)
   (some (false, []))
   (obind (m_ref13_Place N (a, x)) fun z3 =>
    cond (decide (z3 < (0 : Int)))
     (some (false, []))
     (cond (!z1.1)
       (some (false, []))
       (obind (m_ref13_Plain N a) fun z4 =>
        obind (m_ref13_Place N (z4, x)) fun z5 =>
        obind (subI z4 (0 : Int) (IntKind.wrap .i64 (z5 + (1 : Int)))) fun z6 =>
        obind (appI (8 : Nat) [] z6) fun z7 =>
        obind (appI (8 : Nat) z7 z1.2) fun z8 =>
        obind (subI z4 (IntKind.wrap .i64 (z5 + (1 : Int))) (((List.length z4) : Nat) : Int)) fun z9 =>
        obind (appI (8 : Nat) z8 z9) fun z10 =>
        obind (m_ref13_Right N z10) fun z11 =>
        cond (!z11)
         (some (false, []))
         (some (true, z10))))) := by kernel_rfl
theorem c_ref13_Join_ok (N : Nat) : (c_ref13_Join N).ok Try.prog := exF_ok (T := T) (CT := ct_ref13_Join) (N := N) (fun M => ⟨tOk, (ctAll_cons (c_ref13_From_ok M) (ctAll_cons (c_ref13_Right_ok M) (ctAll_cons (c_ref13_Place_ok M) (ctAll_cons (c_ref13_Plain_ok M) ctAll_nil)))), mixed⟩) Try.func10 (by kernel_rfl) (by kernel_rfl) p_ref13_Join [.h (.sl (.i .i64)), .h (.i .i64), .h (.sl (.i .i64)), .h (.i .i64)] [] [(.sl (.i .i64)), (.i .i64), (.sl (.i .i64)), (.i .i64)] r_ref13_Join true true [900] (by kernel_rfl) (fun y => by kernel_rfl) (fun h => by cases h) (fun y => by kernel_rfl) (m_ref13_Join N) (fun x => by kernel_rfl)
/-! archipelago/archipelagoref13.Cut -/
noncomputable def ct_ref13_Cut (N : Nat) : List Ctr := [c_ref13_Right N, c_ref13_Place N]
def i_ref13_Cut_2 : PS := ⟨[(0, .h (.sl (.i .i64))), (9, .k (.ow 901)), (10, .k (.ow 900)), (11, .h (.i .i64)), (14, .h (.i .i64))], [(901, .arr 3 (.i .i64) true), (900, .arr 3 (.i .i64) true)], [(.sl (.i .i64)), (.i .i64), (.i .i64), (.sl (.i .i64)), (.sl (.i .i64))]⟩
def o_ref13_Cut_2 : List (Exit × PS) := [((.exit 2), ⟨[(9, .k (.ow 900)), (10, .k (.ow 901))], [(900, .arr 3 (.i .i64) true), (901, .arr 3 (.i .i64) true)], [(.sl (.i .i64)), (.sl (.i .i64))]⟩)]
def p_ref13_Cut_2 : Pl := .z
noncomputable def l_ref13_Cut_2 (N : Nat) : Nat → (List Int) × Int × Int × (List Int) × (List Int) → Option ((List Int) × (List Int)) := loopF (exC T (ct_ref13_Cut N) N (codeAt [1, 1, 1, 1, 1, 0, 1, 0, 0] (bodyOf Try.f12))) 75 i_ref13_Cut_2 o_ref13_Cut_2 p_ref13_Cut_2
def i_ref13_Cut_1 : PS := ⟨[(0, .h (.sl (.i .i64))), (1, .h (.i .i64)), (2, .h (.i .i64)), (9, .k .nil), (10, .k (.ow 900)), (11, .h (.i .i64)), (12, .h (.i .i64))], [(900, .arr 3 (.i .i64) true)], [(.sl (.i .i64)), (.i .i64), (.i .i64), (.i .i64), (.i .i64), (.sl (.i .i64))]⟩
def o_ref13_Cut_1 : List (Exit × PS) := [((.exit 0), ⟨[(0, .h (.sl (.i .i64))), (9, .k .nil), (10, .k (.ow 900)), (11, .h (.i .i64))], [(900, .arr 3 (.i .i64) true)], [(.sl (.i .i64)), (.i .i64), (.sl (.i .i64))]⟩)]
def p_ref13_Cut_1 : Pl := .z
noncomputable def l_ref13_Cut_1 (N : Nat) : Nat → (List Int) × Int × Int × Int × Int × (List Int) → Option ((List Int) × Int × (List Int)) := loopF (exC T (ct_ref13_Cut N) N (codeAt [1, 1, 1, 1, 0, 1, 0, 0] (bodyOf Try.f12))) 75 i_ref13_Cut_1 o_ref13_Cut_1 p_ref13_Cut_1
def p_ref13_Cut : Pl := (.n .z (.n .z (.n .z (.n .z (.n (.n .z (.n (.loop i_ref13_Cut_1 o_ref13_Cut_1 p_ref13_Cut_1) .z)) (.n (.n .z (.n (.loop i_ref13_Cut_2 o_ref13_Cut_2 p_ref13_Cut_2) .z)) .z))))))
def r_ref13_Cut : PS := ⟨[(6, .k (.ow 900)), (7, .k (.ow 901)), (8, .h .b)], [(900, .arr 3 (.i .i64) true), (901, .arr 3 (.i .i64) true)], [.b, (.sl (.i .i64)), (.sl (.i .i64))]⟩
noncomputable def m_ref13_Cut (N : Nat) : (List Int) × Int × Int → Option (Bool × (List Int) × (List Int)) := exF T ct_ref13_Cut N (bodyOf Try.f12) 75 p_ref13_Cut [.h (.sl (.i .i64)), .h (.i .i64), .h (.i .i64)] [] [(.sl (.i .i64)), (.i .i64), (.i .i64)] r_ref13_Cut
noncomputable def c_ref13_Cut (N : Nat) : Ctr := ⟨12, [.h (.sl (.i .i64)), .h (.i .i64), .h (.i .i64)], [], [(.sl (.i .i64)), (.i .i64), (.i .i64)], Tup r_ref13_Cut.c, m_ref13_Cut N, fun y _ k => k (resG T (mkPS 75 r_ref13_Cut y) Try.f12.results.toList) (keepH' [900, 901] (mkPS 75 r_ref13_Cut y).h), true, true⟩
theorem l_ref13_Cut_2_z (N : Nat) (v : (List Int) × Int × Int × (List Int) × (List Int)) : l_ref13_Cut_2 N 0 v = none := by kernel_rfl
theorem l_ref13_Cut_2_s (N m : Nat) (l : (List Int)) (n : Int) (i : Int) (v9 : (List Int)) (part : (List Int)) : l_ref13_Cut_2 N (m + 1) (l, n, i, v9, part) = cond (decide (i < n))
   (obind (nthI l i) fun z1 =>
    obind (m_ref13_Place N (part, z1)) fun z2 =>
    cond (decide (z2 < (0 : Int)))
     (obind (nthI l i) fun z3 =>
      obind (appI (8 : Nat) v9 [z3]) fun z4 =>
      (l_ref13_Cut_2 N m (l, (n, ((IntKind.wrap .i64 (i + (1 : Int))), (z4, part))))))
     ((l_ref13_Cut_2 N m (l, (n, ((IntKind.wrap .i64 (i + (1 : Int))), (v9, part)))))))
   (some (v9, part)) := by kernel_rfl
theorem l_ref13_Cut_1_z (N : Nat) (v : (List Int) × Int × Int × Int × Int × (List Int)) : l_ref13_Cut_1 N 0 v = none := by kernel_rfl
theorem l_ref13_Cut_1_s (N m : Nat) (l : (List Int)) (x : Int) (y : Int) (n : Int) (i : Int) (part : (List Int)) : l_ref13_Cut_1 N (m + 1) (l, x, y, n, i, part) = cond (decide (i ≤ n))
   (obind (m_ref13_Place N (l, x)) fun z1 =>
    obind (remI (IntKind.wrap .i64 (z1 + i)) n) fun z2 =>
    obind (nthI l z2) fun z3 =>
    obind (appI (8 : Nat) part [z3]) fun z4 =>
    cond (decide (z3 = y))
     (some (l, (n, z4)))
     ((l_ref13_Cut_1 N m (l, (x, (y, (n, ((IntKind.wrap .i64 (i + (1 : Int))), z4))))))))
   (some (l, (n, part))) := by kernel_rfl
theorem m_ref13_Cut_eq (N : Nat) (l : (List Int)) (x : Int) (y : Int) : m_ref13_Cut (N + 1) (l, x, y) = obind (m_ref13_Right N l) fun z1 =>
  cond (!z1)
   (some (false, ([], [])))
   (obind (m_ref13_Place N (l, x)) fun z2 =>
    cond (decide (z2 < (0 : Int)))
     (some (false, ([], [])))
     (obind (m_ref13_Place N (l, y)) fun z3 =>
      cond (decide (z3 < (0 : Int)))
       (some (false, ([], [])))
       (obind (l_ref13_Cut_1 N N (l, (x, (y, ((((List.length l) : Nat) : Int), ((1 : Int), [])))))) fun z4 =>
        obind (l_ref13_Cut_2 N N (z4.1, (z4.2.1, ((0 : Int), ([], z4.2.2))))) fun z5 =>
        some (true, (z5.1, z5.2))))) := by kernel_rfl
theorem c_ref13_Cut_ok (N : Nat) : (c_ref13_Cut N).ok Try.prog := exF_ok (T := T) (CT := ct_ref13_Cut) (N := N) (fun M => ⟨tOk, (ctAll_cons (c_ref13_Right_ok M) (ctAll_cons (c_ref13_Place_ok M) ctAll_nil)), mixed⟩) Try.func12 (by kernel_rfl) (by kernel_rfl) p_ref13_Cut [.h (.sl (.i .i64)), .h (.i .i64), .h (.i .i64)] [] [(.sl (.i .i64)), (.i .i64), (.i .i64)] r_ref13_Cut true true [900, 901] (by kernel_rfl) (fun y => by kernel_rfl) (fun h => by cases h) (fun y => by kernel_rfl) (m_ref13_Cut N) (fun x => by kernel_rfl)
/-! archipelago/archipelagoref13.Next -/
noncomputable def ct_ref13_Next (N : Nat) : List Ctr := [c_ref13_Place N, c_ref13_Right N]
def p_ref13_Next : Pl := .z
def r_ref13_Next : PS := ⟨[(6, .h (.i .i64)), (7, .h .b)], [], [(.i .i64), .b]⟩
noncomputable def m_ref13_Next (N : Nat) : (List Int) × Int × Int → Option (Int × Bool) := exF T ct_ref13_Next N (bodyOf Try.f16) 39 p_ref13_Next [.h (.sl (.i .i64)), .h (.i .i64), .h (.i .i64)] [] [(.sl (.i .i64)), (.i .i64), (.i .i64)] r_ref13_Next
noncomputable def c_ref13_Next (N : Nat) : Ctr := ⟨16, [.h (.sl (.i .i64)), .h (.i .i64), .h (.i .i64)], [], [(.sl (.i .i64)), (.i .i64), (.i .i64)], Tup r_ref13_Next.c, m_ref13_Next N, fun y _ k => k (resG T (mkPS 39 r_ref13_Next y) Try.f16.results.toList) (keepH' [] (mkPS 39 r_ref13_Next y).h), false, true⟩
theorem m_ref13_Next_eq (N : Nat) (l : (List Int)) (token : Int) (v2 : Int) : m_ref13_Next (N + 1) (l, token, v2) = obind (m_ref13_Place N (l, token)) fun z1 =>
  obind (m_ref13_Right N l) fun z2 =>
  cond (!z2)
   (some ((0 : Int), false))
   (cond (decide (z1 < (0 : Int)))
     (some ((0 : Int), false))
     (obind (remI v2 (((List.length l) : Nat) : Int)) fun z3 =>
      obind (remI (IntKind.wrap .i64 (z1 + z3)) (((List.length l) : Nat) : Int)) fun z4 =>
      cond (decide (z4 < (0 : Int)))
       (obind (nthI l (IntKind.wrap .i64 (z4 + (((List.length l) : Nat) : Int)))) fun z5 =>
        some (z5, true))
       (obind (nthI l z4) fun z6 =>
        some (z6, true)))) := by kernel_rfl
theorem c_ref13_Next_ok (N : Nat) : (c_ref13_Next N).ok Try.prog := exF_ok (T := T) (CT := ct_ref13_Next) (N := N) (fun M => ⟨tOk, (ctAll_cons (c_ref13_Place_ok M) (ctAll_cons (c_ref13_Right_ok M) ctAll_nil)), mixed⟩) Try.func16 (by kernel_rfl) (by kernel_rfl) p_ref13_Next [.h (.sl (.i .i64)), .h (.i .i64), .h (.i .i64)] [] [(.sl (.i .i64)), (.i .i64), (.i .i64)] r_ref13_Next false true [] (by kernel_rfl) (fun y => by kernel_rfl) (fun _ => ⟨rfl, rfl⟩) (fun y => by kernel_rfl) (m_ref13_Next N) (fun x => by kernel_rfl)
/-! archipelago/archipelagoref13.Same -/
noncomputable def ct_ref13_Same (N : Nat) : List Ctr := [c_ref13_Right N, c_ref13_Plain N, c_ref01_Ints N]
def p_ref13_Same : Pl := .z
def r_ref13_Same : PS := ⟨[(4, .h .b)], [], [.b]⟩
noncomputable def m_ref13_Same (N : Nat) : (List Int) × (List Int) → Option (Bool) := exF T ct_ref13_Same N (bodyOf Try.f23) 18 p_ref13_Same [.h (.sl (.i .i64)), .h (.sl (.i .i64))] [] [(.sl (.i .i64)), (.sl (.i .i64))] r_ref13_Same
noncomputable def c_ref13_Same (N : Nat) : Ctr := ⟨23, [.h (.sl (.i .i64)), .h (.sl (.i .i64))], [], [(.sl (.i .i64)), (.sl (.i .i64))], Tup r_ref13_Same.c, m_ref13_Same N, fun y _ k => k (resG T (mkPS 18 r_ref13_Same y) Try.f23.results.toList) (keepH' [] (mkPS 18 r_ref13_Same y).h), false, true⟩
theorem m_ref13_Same_eq (N : Nat) (a : (List Int)) (b : (List Int)) : m_ref13_Same (N + 1) (a, b) = obind (m_ref13_Right N a) fun z1 =>
  cond z1
   (obind (m_ref13_Right N b) fun z2 =>
    cond z2
     (obind (m_ref13_Plain N a) fun z3 =>
      obind (m_ref13_Plain N b) fun z4 =>
      obind (m_ref01_Ints N (z3, z4)) fun z5 =>
      some z5)
     (some false))
   (some false) := by kernel_rfl
theorem c_ref13_Same_ok (N : Nat) : (c_ref13_Same N).ok Try.prog := exF_ok (T := T) (CT := ct_ref13_Same) (N := N) (fun M => ⟨tOk, (ctAll_cons (c_ref13_Right_ok M) (ctAll_cons (c_ref13_Plain_ok M) (ctAll_cons (c_ref01_Ints_ok M) ctAll_nil))), mixed⟩) Try.func23 (by kernel_rfl) (by kernel_rfl) p_ref13_Same [.h (.sl (.i .i64)), .h (.sl (.i .i64))] [] [(.sl (.i .i64)), (.sl (.i .i64))] r_ref13_Same false true [] (by kernel_rfl) (fun y => by kernel_rfl) (fun _ => ⟨rfl, rfl⟩) (fun y => by kernel_rfl) (m_ref13_Same N) (fun x => by kernel_rfl)
/-! archipelago/archipelagolaw13.RingAnswers -/
noncomputable def ct_law13_RingAnswers (N : Nat) : List Ctr := [c_law13_alive N, c_ring_Join N, c_ref13_Join N, c_ring_Cut N, c_ref13_Cut N, c_ring_From N, c_ref13_From N, c_ring_Next N, c_ref13_Next N, c_ref01_Ints N, c_ring_Plain N, c_ref13_Plain N, c_ring_Right N, c_ref13_Right N, c_ring_Same N, c_ref13_Same N]
def p_law13_RingAnswers : Pl := .z
def r_law13_RingAnswers : PS := ⟨[(6, .h .b)], [], [.b]⟩
noncomputable def m_law13_RingAnswers (N : Nat) : (List Int) × (List Int) × Int × Int → Option (Bool) := exF T ct_law13_RingAnswers N (bodyOf Try.f3) 165 p_law13_RingAnswers [.h (.sl (.i .i64)), .h (.sl (.i .i64)), .ag [.h (.i .i64), .h (.i .i64)]] [] [(.sl (.i .i64)), (.sl (.i .i64)), (.i .i64), (.i .i64)] r_law13_RingAnswers
noncomputable def c_law13_RingAnswers (N : Nat) : Ctr := ⟨3, [.h (.sl (.i .i64)), .h (.sl (.i .i64)), .ag [.h (.i .i64), .h (.i .i64)]], [], [(.sl (.i .i64)), (.sl (.i .i64)), (.i .i64), (.i .i64)], Tup r_law13_RingAnswers.c, m_law13_RingAnswers N, fun y _ k => k (resG T (mkPS 165 r_law13_RingAnswers y) Try.f3.results.toList) (keepH' [] (mkPS 165 r_law13_RingAnswers y).h), false, true⟩
theorem m_law13_RingAnswers_eq (N : Nat) (a : (List Int)) (b : (List Int)) (two : Int) (two2 : Int) : m_law13_RingAnswers (N + 1) (a, b, two, two2) = obind (m_law13_alive N ()) fun z1 =>
  cond (!z1)
   (some false)
   (cond (decide ((60 : Int) < (((List.length a) : Nat) : Int)))
     (some true)
     (cond (decide ((60 : Int) < (((List.length b) : Nat) : Int)))
       (some true)
       (obind (m_ring_Join N (a, (two, (b, two2)))) fun z2 =>
        obind (m_ref13_Join N (a, (two, (b, two2)))) fun z3 =>
        obind (m_ring_Cut N (a, (two, two2))) fun z4 =>
        obind (m_ref13_Cut N (a, (two, two2))) fun z5 =>
        obind (m_ring_From N (a, two)) fun z6 =>
        obind (m_ref13_From N (a, two)) fun z7 =>
        obind (m_ring_Next N (a, (two, two2))) fun z8 =>
        obind (m_ref13_Next N (a, (two, two2))) fun z9 =>
        obind (m_ref01_Ints N (z2.2, z3.2)) fun z10 =>
        cond z10
         (cond (z2.1 == z3.1)
           (obind (m_ref01_Ints N (z4.2.1, z5.2.1)) fun z11 =>
            cond z11
             (obind (m_ref01_Ints N (z4.2.2, z5.2.2)) fun z12 =>
              cond z12
               (cond (z4.1 == z5.1)
                 (obind (m_ref01_Ints N (z6.2, z7.2)) fun z13 =>
                  cond z13
                   (cond (z6.1 == z7.1)
                     (cond (decide (z8.1 = z9.1))
                       (cond (z8.2 == z9.2)
                         (obind (m_ring_Plain N a) fun z14 =>
                          obind (m_ref13_Plain N a) fun z15 =>
                          obind (m_ref01_Ints N (z14, z15)) fun z16 =>
                          cond z16
                           (obind (m_ring_Right N a) fun z17 =>
                            obind (m_ref13_Right N a) fun z18 =>
                            cond (z17 == z18)
                             (obind (m_ring_Same N (a, b)) fun z19 =>
                              obind (m_ref13_Same N (a, b)) fun z20 =>
                              some (z19 == z20))
                             (some false))
                           (some false))
                         (some false))
                       (some false))
                     (some false))
                   (some false))
                 (some false))
               (some false))
             (some false))
           (some false))
         (some false)))) := by kernel_rfl
theorem c_law13_RingAnswers_ok (N : Nat) : (c_law13_RingAnswers N).ok Try.prog := exF_ok (T := T) (CT := ct_law13_RingAnswers) (N := N) (fun M => ⟨tOk, (ctAll_cons (c_law13_alive_ok M) (ctAll_cons (c_ring_Join_ok M) (ctAll_cons (c_ref13_Join_ok M) (ctAll_cons (c_ring_Cut_ok M) (ctAll_cons (c_ref13_Cut_ok M) (ctAll_cons (c_ring_From_ok M) (ctAll_cons (c_ref13_From_ok M) (ctAll_cons (c_ring_Next_ok M) (ctAll_cons (c_ref13_Next_ok M) (ctAll_cons (c_ref01_Ints_ok M) (ctAll_cons (c_ring_Plain_ok M) (ctAll_cons (c_ref13_Plain_ok M) (ctAll_cons (c_ring_Right_ok M) (ctAll_cons (c_ref13_Right_ok M) (ctAll_cons (c_ring_Same_ok M) (ctAll_cons (c_ref13_Same_ok M) ctAll_nil)))))))))))))))), mixed⟩) Try.func3 (by kernel_rfl) (by kernel_rfl) p_law13_RingAnswers [.h (.sl (.i .i64)), .h (.sl (.i .i64)), .ag [.h (.i .i64), .h (.i .i64)]] [] [(.sl (.i .i64)), (.sl (.i .i64)), (.i .i64), (.i .i64)] r_law13_RingAnswers false true [] (by kernel_rfl) (fun y => by kernel_rfl) (fun _ => ⟨rfl, rfl⟩) (fun y => by kernel_rfl) (m_law13_RingAnswers N) (fun x => by kernel_rfl)
/-! archipelago/archipelagolaw13.RingBack -/
noncomputable def ct_law13_RingBack (N : Nat) : List Ctr := [c_law13_alive N, c_ring_Join N, c_ring_Next N, c_ring_Cut N, c_ring_From N, c_ring_Same N, c_ref01_Ints N]
def p_law13_RingBack : Pl := .z
def r_law13_RingBack : PS := ⟨[(6, .h .b)], [], [.b]⟩
noncomputable def m_law13_RingBack (N : Nat) : (List Int) × (List Int) × Int × Int → Option (Bool) := exF T ct_law13_RingBack N (bodyOf Try.f4) 116 p_law13_RingBack [.h (.sl (.i .i64)), .h (.sl (.i .i64)), .ag [.h (.i .u8), .h (.i .u8)]] [] [(.sl (.i .i64)), (.sl (.i .i64)), (.i .u8), (.i .u8)] r_law13_RingBack
noncomputable def c_law13_RingBack (N : Nat) : Ctr := ⟨4, [.h (.sl (.i .i64)), .h (.sl (.i .i64)), .ag [.h (.i .u8), .h (.i .u8)]], [], [(.sl (.i .i64)), (.sl (.i .i64)), (.i .u8), (.i .u8)], Tup r_law13_RingBack.c, m_law13_RingBack N, fun y _ k => k (resG T (mkPS 116 r_law13_RingBack y) Try.f4.results.toList) (keepH' [] (mkPS 116 r_law13_RingBack y).h), false, true⟩
theorem m_law13_RingBack_eq (N : Nat) (a : (List Int)) (b : (List Int)) (two : Int) (two2 : Int) : m_law13_RingBack (N + 1) (a, b, two, two2) = obind (m_law13_alive N ()) fun z1 =>
  cond (!z1)
   (some false)
   (cond (decide ((60 : Int) < (((List.length a) : Nat) : Int)))
     (some true)
     (cond (decide ((60 : Int) < (((List.length b) : Nat) : Int)))
       (some true)
       (cond (decide ((((List.length a) : Nat) : Int) = (0 : Int)))
         (some true)
         (cond (decide ((((List.length b) : Nat) : Int) = (0 : Int)))
           (some true)
           (obind (remI (IntKind.wrap .i64 two) (((List.length a) : Nat) : Int)) fun z2 =>
            obind (nthI a z2) fun z3 =>
            obind (remI (IntKind.wrap .i64 two2) (((List.length b) : Nat) : Int)) fun z4 =>
            obind (nthI b z4) fun z5 =>
            obind (m_ring_Join N (a, (z3, (b, z5)))) fun z6 =>
            cond (!z6.1)
             (some (decide ((((List.length z6.2) : Nat) : Int) = (0 : Int))))
             (obind (m_ring_Next N (b, (z5, (-(1 : Int))))) fun z7 =>
              obind (m_ring_Cut N (z6.2, (z3, z7.1))) fun z8 =>
              obind (m_ring_From N (b, z5)) fun z9 =>
              cond z7.2
               (cond z8.1
                 (cond z9.1
                   (obind (m_ring_Same N (z8.2.1, a)) fun z10 =>
                    cond z10
                     (obind (m_ref01_Ints N (z8.2.2, z9.2)) fun z11 =>
                      cond z11
                       (some (decide ((((List.length z6.2) : Nat) : Int) = (IntKind.wrap .i64 ((((List.length a) : Nat) : Int) + (((List.length b) : Nat) : Int))))))
                       (some false))
                     (some false))
                   (some false))
                 (some false))
               (some false))))))) := by kernel_rfl
theorem c_law13_RingBack_ok (N : Nat) : (c_law13_RingBack N).ok Try.prog := exF_ok (T := T) (CT := ct_law13_RingBack) (N := N) (fun M => ⟨tOk, (ctAll_cons (c_law13_alive_ok M) (ctAll_cons (c_ring_Join_ok M) (ctAll_cons (c_ring_Next_ok M) (ctAll_cons (c_ring_Cut_ok M) (ctAll_cons (c_ring_From_ok M) (ctAll_cons (c_ring_Same_ok M) (ctAll_cons (c_ref01_Ints_ok M) ctAll_nil))))))), mixed⟩) Try.func4 (by kernel_rfl) (by kernel_rfl) p_law13_RingBack [.h (.sl (.i .i64)), .h (.sl (.i .i64)), .ag [.h (.i .u8), .h (.i .u8)]] [] [(.sl (.i .i64)), (.sl (.i .i64)), (.i .u8), (.i .u8)] r_law13_RingBack false true [] (by kernel_rfl) (fun y => by kernel_rfl) (fun _ => ⟨rfl, rfl⟩) (fun y => by kernel_rfl) (m_law13_RingBack N) (fun x => by kernel_rfl)
/-! archipelago/archipelagolaw13.RingCuts -/
noncomputable def ct_law13_RingCuts (N : Nat) : List Ctr := [c_law13_alive N, c_ref13_Right N, c_ring_Cut N, c_ring_Same N, c_ring_Join N, c_ring_Next N, c_ref13_Place N]
def p_law13_RingCuts : Pl := .z
def r_law13_RingCuts : PS := ⟨[(4, .h .b)], [], [.b]⟩
noncomputable def m_law13_RingCuts (N : Nat) : (List Int) × Int × Int → Option (Bool) := exF T ct_law13_RingCuts N (bodyOf Try.f5) 141 p_law13_RingCuts [.h (.sl (.i .i64)), .ag [.h (.i .u8), .h (.i .u8)]] [] [(.sl (.i .i64)), (.i .u8), (.i .u8)] r_law13_RingCuts
noncomputable def c_law13_RingCuts (N : Nat) : Ctr := ⟨5, [.h (.sl (.i .i64)), .ag [.h (.i .u8), .h (.i .u8)]], [], [(.sl (.i .i64)), (.i .u8), (.i .u8)], Tup r_law13_RingCuts.c, m_law13_RingCuts N, fun y _ k => k (resG T (mkPS 141 r_law13_RingCuts y) Try.f5.results.toList) (keepH' [] (mkPS 141 r_law13_RingCuts y).h), false, true⟩
theorem m_law13_RingCuts_eq (N : Nat) (l : (List Int)) (two : Int) (two2 : Int) : m_law13_RingCuts (N + 1) (l, two, two2) = obind (m_law13_alive N ()) fun z1 =>
  cond (!z1)
   (some false)
   (cond (decide ((60 : Int) < (((List.length l) : Nat) : Int)))
     (some true)
     (cond (decide ((((List.length l) : Nat) : Int) = (0 : Int)))
       (some true)
       (obind (m_ref13_Right N l) fun z2 =>
        cond (!z2)
         (some true)
         (obind (remI (IntKind.wrap .i64 two) (((List.length l) : Nat) : Int)) fun z3 =>
          obind (nthI l z3) fun z4 =>
          obind (remI (IntKind.wrap .i64 two2) (((List.length l) : Nat) : Int)) fun z5 =>
          obind (nthI l z5) fun z6 =>
          obind (m_ring_Cut N (l, (z4, z6))) fun z7 =>
          cond (!z7.1)
           (some false)
           (cond (!(decide ((IntKind.wrap .i64 ((((List.length z7.2.1) : Nat) : Int) + (((List.length z7.2.2) : Nat) : Int))) = (((List.length l) : Nat) : Int))))
             (some false)
             (cond (decide ((((List.length z7.2.2) : Nat) : Int) = (0 : Int)))
               (some false)
               (obind (nthI z7.2.2 (IntKind.wrap .i64 ((((List.length z7.2.2) : Nat) : Int) - (1 : Int)))) fun z8 =>
                obind (nthI z7.2.2 (IntKind.wrap .i64 ((((List.length z7.2.2) : Nat) : Int) - (1 : Int)))) fun z9 =>
                cond (!(decide (z9 = z6)))
                 (some false)
                 (cond (!((decide (z4 = z6)) == (decide ((((List.length z7.2.1) : Nat) : Int) = (0 : Int)))))
                   (some false)
                   (cond (decide ((((List.length z7.2.1) : Nat) : Int) = (0 : Int)))
                     (obind (m_ring_Same N (z7.2.2, l)) fun z10 =>
                      some z10)
                     (obind (nthI z7.2.2 (0 : Int)) fun z11 =>
                      obind (nthI z7.2.2 (0 : Int)) fun z12 =>
                      obind (m_ring_Join N (z7.2.1, (z4, (z7.2.2, z12)))) fun z13 =>
                      obind (m_ring_Next N (l, (z4, (1 : Int)))) fun z14 =>
                      cond z13.1
                       (cond z14.2
                         (obind (m_ring_Same N (z13.2, l)) fun z15 =>
                          cond z15
                           (obind (nthI z7.2.2 (0 : Int)) fun z16 =>
                            obind (nthI z7.2.2 (0 : Int)) fun z17 =>
                            cond (decide (z17 = z14.1))
                             (obind (m_ref13_Place N (z7.2.1, z4)) fun z18 =>
                              cond (decide ((0 : Int) ≤ z18))
                               (obind (m_ref13_Place N (z7.2.1, z6)) fun z19 =>
                                some (decide (z19 < (0 : Int))))
                               (some false))
                             (some false))
                           (some false))
                         (some false))
                       (some false))))))))))) := by kernel_rfl
theorem c_law13_RingCuts_ok (N : Nat) : (c_law13_RingCuts N).ok Try.prog := exF_ok (T := T) (CT := ct_law13_RingCuts) (N := N) (fun M => ⟨tOk, (ctAll_cons (c_law13_alive_ok M) (ctAll_cons (c_ref13_Right_ok M) (ctAll_cons (c_ring_Cut_ok M) (ctAll_cons (c_ring_Same_ok M) (ctAll_cons (c_ring_Join_ok M) (ctAll_cons (c_ring_Next_ok M) (ctAll_cons (c_ref13_Place_ok M) ctAll_nil))))))), mixed⟩) Try.func5 (by kernel_rfl) (by kernel_rfl) p_law13_RingCuts [.h (.sl (.i .i64)), .ag [.h (.i .u8), .h (.i .u8)]] [] [(.sl (.i .i64)), (.i .u8), (.i .u8)] r_law13_RingCuts false true [] (by kernel_rfl) (fun y => by kernel_rfl) (fun _ => ⟨rfl, rfl⟩) (fun y => by kernel_rfl) (m_law13_RingCuts N) (fun x => by kernel_rfl)
/-! archipelago/archipelagolaw13.RingTurns -/
noncomputable def ct_law13_RingTurns (N : Nat) : List Ctr := [c_law13_alive N, c_ref13_Right N, c_ring_From N, c_ring_Next N, c_ref13_Place N, c_ring_Same N, c_ring_Plain N, c_ref01_Ints N]
def p_law13_RingTurns : Pl := .z
def r_law13_RingTurns : PS := ⟨[(6, .h .b)], [], [.b]⟩
noncomputable def m_law13_RingTurns (N : Nat) : (List Int) × Int × Int → Option (Bool) := exF T ct_law13_RingTurns N (bodyOf Try.f6) 115 p_law13_RingTurns [.h (.sl (.i .i64)), .h (.i .i64), .h (.i .i64)] [] [(.sl (.i .i64)), (.i .i64), (.i .i64)] r_law13_RingTurns
noncomputable def c_law13_RingTurns (N : Nat) : Ctr := ⟨6, [.h (.sl (.i .i64)), .h (.i .i64), .h (.i .i64)], [], [(.sl (.i .i64)), (.i .i64), (.i .i64)], Tup r_law13_RingTurns.c, m_law13_RingTurns N, fun y _ k => k (resG T (mkPS 115 r_law13_RingTurns y) Try.f6.results.toList) (keepH' [] (mkPS 115 r_law13_RingTurns y).h), false, true⟩
theorem m_law13_RingTurns_eq (N : Nat) (l : (List Int)) (token : Int) (v2 : Int) : m_law13_RingTurns (N + 1) (l, token, v2) = obind (m_law13_alive N ()) fun z1 =>
  cond (!z1)
   (some false)
   (cond (decide ((60 : Int) < (((List.length l) : Nat) : Int)))
     (some true)
     (obind (m_ref13_Right N l) fun z2 =>
      cond (!z2)
       (some true)
       (cond (decide ((((List.length l) : Nat) : Int) = (0 : Int)))
         (some true)
         (obind (m_ring_From N (l, token)) fun z3 =>
          obind (m_ring_Next N (l, (token, v2))) fun z4 =>
          cond (!z3.1)
           (cond (!z4.2)
             (obind (m_ref13_Place N (l, token)) fun z5 =>
              some (decide (z5 < (0 : Int))))
             (some false))
           (obind (remI v2 (((List.length l) : Nat) : Int)) fun z6 =>
            obind (m_ring_Next N (l, (z4.1, (IntKind.wrap .i64 ((0 : Int) - z6))))) fun z7 =>
            obind (m_ring_Next N (l, (token, (((List.length l) : Nat) : Int)))) fun z8 =>
            cond z4.2
             (cond z7.2
               (cond z8.2
                 (cond (decide ((((List.length z3.2) : Nat) : Int) = (((List.length l) : Nat) : Int)))
                   (obind (nthI z3.2 (0 : Int)) fun z9 =>
                    obind (nthI z3.2 (0 : Int)) fun z10 =>
                    cond (decide (z10 = token))
                     (obind (m_ring_Same N (z3.2, l)) fun z11 =>
                      cond z11
                       (obind (m_ring_Plain N z3.2) fun z12 =>
                        obind (m_ring_Plain N l) fun z13 =>
                        obind (m_ref01_Ints N (z12, z13)) fun z14 =>
                        cond z14
                         (cond (decide (z7.1 = token))
                           (some (decide (z8.1 = token)))
                           (some false))
                         (some false))
                       (some false))
                     (some false))
                   (some false))
                 (some false))
               (some false))
             (some false)))))) := by kernel_rfl
theorem c_law13_RingTurns_ok (N : Nat) : (c_law13_RingTurns N).ok Try.prog := exF_ok (T := T) (CT := ct_law13_RingTurns) (N := N) (fun M => ⟨tOk, (ctAll_cons (c_law13_alive_ok M) (ctAll_cons (c_ref13_Right_ok M) (ctAll_cons (c_ring_From_ok M) (ctAll_cons (c_ring_Next_ok M) (ctAll_cons (c_ref13_Place_ok M) (ctAll_cons (c_ring_Same_ok M) (ctAll_cons (c_ring_Plain_ok M) (ctAll_cons (c_ref01_Ints_ok M) ctAll_nil)))))))), mixed⟩) Try.func6 (by kernel_rfl) (by kernel_rfl) p_law13_RingTurns [.h (.sl (.i .i64)), .h (.i .i64), .h (.i .i64)] [] [(.sl (.i .i64)), (.i .i64), (.i .i64)] r_law13_RingTurns false true [] (by kernel_rfl) (fun y => by kernel_rfl) (fun _ => ⟨rfl, rfl⟩) (fun y => by kernel_rfl) (m_law13_RingTurns N) (fun x => by kernel_rfl)
/-! archipelago/archipelagolaw13.RingOrder -/
noncomputable def ct_law13_RingOrder (N : Nat) : List Ctr := [c_law13_alive N, c_ring_Join N, c_ref13_Place N, c_ring_Next N, c_ring_Same N]
def i_law13_RingOrder_1 : PS := ⟨[(0, .h (.sl (.i .i64))), (1, .h (.sl (.i .i64))), (7, .h (.i .i64)), (8, .h (.i .i64)), (9, .k (.ow 900)), (11, .k (.ow 901)), (12, .k (.ow 902)), (13, .h (.i .i64))], [(900, .arr 3 (.i .i64) true), (901, .arr 3 (.i .i64) true), (902, .arr 3 (.i .i64) true)], [(.sl (.i .i64)), (.sl (.i .i64)), (.i .i64), (.i .i64), (.i .i64), (.sl (.i .i64)), (.sl (.i .i64)), (.sl (.i .i64))]⟩
def o_law13_RingOrder_1 : List (Exit × PS) := [((.exit 0), ⟨[(0, .h (.sl (.i .i64))), (1, .h (.sl (.i .i64))), (7, .h (.i .i64)), (8, .h (.i .i64)), (9, .k (.ow 900)), (11, .k (.ow 901)), (12, .k (.ow 902))], [(900, .arr 3 (.i .i64) true), (901, .arr 3 (.i .i64) true), (902, .arr 3 (.i .i64) true)], [(.sl (.i .i64)), (.sl (.i .i64)), (.i .i64), (.i .i64), (.sl (.i .i64)), (.sl (.i .i64)), (.sl (.i .i64))]⟩)]
def p_law13_RingOrder_1 : Pl := .z
noncomputable def l_law13_RingOrder_1 (N : Nat) : Nat → (List Int) × (List Int) × Int × Int × Int × (List Int) × (List Int) × (List Int) → Option ((List Int) × (List Int) × Int × Int × (List Int) × (List Int) × (List Int)) := loopF (exC T (ct_law13_RingOrder N) N (codeAt [1, 1, 1, 1, 1, 1, 1, 0, 1, 0, 0] (bodyOf Try.f7))) 143 i_law13_RingOrder_1 o_law13_RingOrder_1 p_law13_RingOrder_1
def p_law13_RingOrder : Pl := (.n .z (.n .z (.n .z (.n .z (.n .z (.n .z (.n .z (.n (.n .z (.n (.loop i_law13_RingOrder_1 o_law13_RingOrder_1 p_law13_RingOrder_1) .z)) .z))))))))
def r_law13_RingOrder : PS := ⟨[(6, .h .b)], [], [.b]⟩
noncomputable def m_law13_RingOrder (N : Nat) : (List Int) × (List Int) × Int × Int → Option (Bool) := exF T ct_law13_RingOrder N (bodyOf Try.f7) 143 p_law13_RingOrder [.h (.sl (.i .i64)), .h (.sl (.i .i64)), .ag [.h (.i .u8), .h (.i .u8)]] [] [(.sl (.i .i64)), (.sl (.i .i64)), (.i .u8), (.i .u8)] r_law13_RingOrder
noncomputable def c_law13_RingOrder (N : Nat) : Ctr := ⟨7, [.h (.sl (.i .i64)), .h (.sl (.i .i64)), .ag [.h (.i .u8), .h (.i .u8)]], [], [(.sl (.i .i64)), (.sl (.i .i64)), (.i .u8), (.i .u8)], Tup r_law13_RingOrder.c, m_law13_RingOrder N, fun y _ k => k (resG T (mkPS 143 r_law13_RingOrder y) Try.f7.results.toList) (keepH' [] (mkPS 143 r_law13_RingOrder y).h), false, true⟩
theorem l_law13_RingOrder_1_z (N : Nat) (v : (List Int) × (List Int) × Int × Int × Int × (List Int) × (List Int) × (List Int)) : l_law13_RingOrder_1 N 0 v = none := by kernel_rfl
theorem l_law13_RingOrder_1_s (N m : Nat) (a : (List Int)) (b : (List Int)) (x : Int) (y : Int) (i : Int) (j : (List Int)) (p : (List Int)) (q : (List Int)) : l_law13_RingOrder_1 N (m + 1) (a, b, x, y, i, j, p, q) = cond (decide (i < (((List.length j) : Nat) : Int)))
   (obind (nthI j i) fun z1 =>
    obind (nthI j i) fun z2 =>
    obind (m_ref13_Place N (a, z2)) fun z3 =>
    cond (decide ((0 : Int) ≤ z3))
     (obind (nthI j i) fun z4 =>
      obind (nthI j i) fun z5 =>
      obind (appI (8 : Nat) p [z5]) fun z6 =>
      (l_law13_RingOrder_1 N m (a, (b, (x, (y, ((IntKind.wrap .i64 (i + (1 : Int))), (j, (z6, q)))))))))
     (obind (nthI j i) fun z7 =>
      obind (nthI j i) fun z8 =>
      obind (appI (8 : Nat) q [z8]) fun z9 =>
      (l_law13_RingOrder_1 N m (a, (b, (x, (y, ((IntKind.wrap .i64 (i + (1 : Int))), (j, (p, z9))))))))))
   (some (a, (b, (x, (y, (j, (p, q))))))) := by kernel_rfl
theorem m_law13_RingOrder_eq (N : Nat) (a : (List Int)) (b : (List Int)) (two : Int) (two2 : Int) : m_law13_RingOrder (N + 1) (a, b, two, two2) = obind (m_law13_alive N ()) fun z1 =>
  cond (!z1)
   (some false)
   (cond (decide ((60 : Int) < (((List.length a) : Nat) : Int)))
     (some true)
     (cond (decide ((60 : Int) < (((List.length b) : Nat) : Int)))
       (some true)
       (cond (decide ((((List.length a) : Nat) : Int) = (0 : Int)))
         (some true)
         (cond (decide ((((List.length b) : Nat) : Int) = (0 : Int)))
           (some true)
           (obind (remI (IntKind.wrap .i64 two) (((List.length a) : Nat) : Int)) fun z2 =>
            obind (nthI a z2) fun z3 =>
            obind (remI (IntKind.wrap .i64 two2) (((List.length b) : Nat) : Int)) fun z4 =>
            obind (nthI b z4) fun z5 =>
            obind (m_ring_Join N (a, (z3, (b, z5)))) fun z6 =>
            cond (!z6.1)
             (some true)
             (obind (l_law13_RingOrder_1 N N (a, (b, (z3, (z5, ((0 : Int), (z6.2, ([], [])))))))) fun z7 =>
              obind (m_ring_Next N (z7.2.2.2.2.1, (z7.2.2.1, (1 : Int)))) fun z8 =>
              obind (m_ring_Next N (z7.2.2.2.2.1, (z7.2.2.1, (IntKind.wrap .i64 ((((List.length z7.2.1) : Nat) : Int) + (1 : Int)))))) fun z9 =>
              obind (m_ring_Next N (z7.1, (z7.2.2.1, (1 : Int)))) fun z10 =>
              cond z8.2
               (cond z9.2
                 (cond z10.2
                   (cond (decide (z8.1 = z7.2.2.2.1))
                     (cond (decide (z9.1 = z10.1))
                       (obind (m_ring_Same N (z7.2.2.2.2.2.1, z7.1)) fun z11 =>
                        cond z11
                         (obind (m_ring_Same N (z7.2.2.2.2.2.2, z7.2.1)) fun z12 =>
                          some z12)
                         (some false))
                       (some false))
                     (some false))
                   (some false))
                 (some false))
               (some false))))))) := by kernel_rfl
theorem c_law13_RingOrder_ok (N : Nat) : (c_law13_RingOrder N).ok Try.prog := exF_ok (T := T) (CT := ct_law13_RingOrder) (N := N) (fun M => ⟨tOk, (ctAll_cons (c_law13_alive_ok M) (ctAll_cons (c_ring_Join_ok M) (ctAll_cons (c_ref13_Place_ok M) (ctAll_cons (c_ring_Next_ok M) (ctAll_cons (c_ring_Same_ok M) ctAll_nil))))), mixed⟩) Try.func7 (by kernel_rfl) (by kernel_rfl) p_law13_RingOrder [.h (.sl (.i .i64)), .h (.sl (.i .i64)), .ag [.h (.i .u8), .h (.i .u8)]] [] [(.sl (.i .i64)), (.sl (.i .i64)), (.i .u8), (.i .u8)] r_law13_RingOrder false true [] (by kernel_rfl) (fun y => by kernel_rfl) (fun _ => ⟨rfl, rfl⟩) (fun y => by kernel_rfl) (m_law13_RingOrder N) (fun x => by kernel_rfl)
end Go.Proofs.Ytmijkdlkhakmiaa
