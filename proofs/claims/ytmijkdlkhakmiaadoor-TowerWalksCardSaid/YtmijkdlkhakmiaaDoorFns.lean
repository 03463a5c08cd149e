/- The functions of this seat, reckoned: of each what it computes, as a tree, and its contract (printed by wip/tool/plan.sh). -/
import Derived.Test.YtmijkdlkhakmiaaDoorTys
set_option linter.unusedVariables false
set_option maxRecDepth 100000
namespace Go.Proofs.YtmijkdlkhakmiaaDoor
open Go Go.RowKit
/-! archipelago/ring.Right$1 -/
noncomputable def ct_ring_RightF1 (N : Nat) : List Ctr := []
def p_ring_RightF1 : Pl := .z
def r_ring_RightF1 : PS := ⟨[(2, .h .b)], [], [.b]⟩
noncomputable def m_ring_RightF1 (N : Nat) : Int → Option (Bool) := exF T ct_ring_RightF1 N (bodyOf Tryd.f40) 9 p_ring_RightF1 [.h (.i .i64)] [] [(.i .i64)] r_ring_RightF1
noncomputable def c_ring_RightF1 (N : Nat) : Ctr := ⟨40, [.h (.i .i64)], [], [(.i .i64)], r_ring_RightF1.c, m_ring_RightF1 N, fun y => resG T (mkPS 9 r_ring_RightF1 y) Tryd.f40.results.toList, false, true, fun y => keepH' [] (mkPS 9 r_ring_RightF1 y).h⟩
theorem m_ring_RightF1_eq (N : Nat) (t : Int) : m_ring_RightF1 (N + 1) (t) = cond (decide (t < (0 : Int)))
   (some true)
   (some (decide ((10000 : Int) < t))) := by kernel_rfl
theorem c_ring_RightF1_ok (N : Nat) : (c_ring_RightF1 N).ok Tryd.prog := exF_ok (T := T) (CT := ct_ring_RightF1) (N := N) (fun M => ⟨tOk, ctAll_nil, mixed⟩) Tryd.func40 (by kernel_rfl) (by kernel_rfl) p_ring_RightF1 [.h (.i .i64)] [] [(.i .i64)] r_ring_RightF1 false true [] (by kernel_rfl) (fun y => by kernel_rfl) (fun _ => ⟨rfl, rfl⟩) (fun y => by kernel_rfl) (m_ring_RightF1 N) (fun x => by kernel_rfl)
/-! slices.IndexFunc[[]int,int] -/
noncomputable def ct_slices_IndexFunc_Lint_int_ring_RightF1 (N : Nat) : List Ctr := [c_ring_RightF1 N]
def i_slices_IndexFunc_Lint_int_ring_RightF1_1 : PS := ⟨[(0, .h (.sl (.i .i64))), (1, .k (.v (.func (.func 40) #[] #[]))), (7, .h (.i .i64)), (8, .h (.i .i64))], [], [(.sl (.i .i64)), (.i .i64), (.i .i64)]⟩
def o_slices_IndexFunc_Lint_int_ring_RightF1_1 : List (Exit × PS) := [((.exit 0), ⟨[], [], []⟩), (.ret, ⟨[(4, .h (.i .i64))], [], [(.i .i64)]⟩)]
def p_slices_IndexFunc_Lint_int_ring_RightF1_1 : Pl := .z
noncomputable def l_slices_IndexFunc_Lint_int_ring_RightF1_1 (N : Nat) : Nat → (List Int) × Int × Int → Option ((Unit) ⊕ (Int)) := loopF (exC T (ct_slices_IndexFunc_Lint_int_ring_RightF1 N) N (codeAt [1, 0, 1, 0, 0] (bodyOf Tryd.f42))) 19 i_slices_IndexFunc_Lint_int_ring_RightF1_1 o_slices_IndexFunc_Lint_int_ring_RightF1_1 p_slices_IndexFunc_Lint_int_ring_RightF1_1
def p_slices_IndexFunc_Lint_int_ring_RightF1 : Pl := (.n .z (.n (.n .z (.n (.loop i_slices_IndexFunc_Lint_int_ring_RightF1_1 o_slices_IndexFunc_Lint_int_ring_RightF1_1 p_slices_IndexFunc_Lint_int_ring_RightF1_1) .z)) .z))
def r_slices_IndexFunc_Lint_int_ring_RightF1 : PS := ⟨[(4, .h (.i .i64))], [], [(.i .i64)]⟩
noncomputable def m_slices_IndexFunc_Lint_int_ring_RightF1 (N : Nat) : (List Int) → Option (Int) := exF T ct_slices_IndexFunc_Lint_int_ring_RightF1 N (bodyOf Tryd.f42) 19 p_slices_IndexFunc_Lint_int_ring_RightF1 [.h (.sl (.i .i64)), .k (.v (.func (.func 40) ⟨[]⟩ ⟨[]⟩))] [] [(.sl (.i .i64))] r_slices_IndexFunc_Lint_int_ring_RightF1
noncomputable def c_slices_IndexFunc_Lint_int_ring_RightF1 (N : Nat) : Ctr := ⟨42, [.h (.sl (.i .i64)), .k (.v (.func (.func 40) ⟨[]⟩ ⟨[]⟩))], [], [(.sl (.i .i64))], r_slices_IndexFunc_Lint_int_ring_RightF1.c, m_slices_IndexFunc_Lint_int_ring_RightF1 N, fun y => resG T (mkPS 19 r_slices_IndexFunc_Lint_int_ring_RightF1 y) Tryd.f42.results.toList, false, true, fun y => keepH' [] (mkPS 19 r_slices_IndexFunc_Lint_int_ring_RightF1 y).h⟩
theorem l_slices_IndexFunc_Lint_int_ring_RightF1_1_z (N : Nat) (v : (List Int) × Int × Int) : l_slices_IndexFunc_Lint_int_ring_RightF1_1 N 0 v = none := by kernel_rfl
theorem l_slices_IndexFunc_Lint_int_ring_RightF1_1_s (N m : Nat) (s : (List Int)) (v7 : Int) (v8 : Int) : l_slices_IndexFunc_Lint_int_ring_RightF1_1 N (m + 1) (s, v7, v8) = cond (decide (v8 < v7))
   (obind (nthI s v8) fun z1 =>
    obind (m_ring_RightF1 N z1) fun z2 =>
    cond z2
     (some (.inr v8))
     ((l_slices_IndexFunc_Lint_int_ring_RightF1_1 N m (s, (v7, (IntKind.wrap .i64 (v8 + (1 : Int))))))))
   (some (.inl ())) := by kernel_rfl
theorem m_slices_IndexFunc_Lint_int_ring_RightF1_eq (N : Nat) (s : (List Int)) : m_slices_IndexFunc_Lint_int_ring_RightF1 (N + 1) (s) = obind (l_slices_IndexFunc_Lint_int_ring_RightF1_1 N N (s, ((((List.length s) : Nat) : Int), (0 : Int)))) fun z1 =>
  (match z1 with
  | .inl zy2 => some (-(1 : Int))
  | .inr zy3 => some zy3) := by kernel_rfl
theorem c_slices_IndexFunc_Lint_int_ring_RightF1_ok (N : Nat) : (c_slices_IndexFunc_Lint_int_ring_RightF1 N).ok Tryd.prog := exF_ok (T := T) (CT := ct_slices_IndexFunc_Lint_int_ring_RightF1) (N := N) (fun M => ⟨tOk, (ctAll_cons (c_ring_RightF1_ok M) ctAll_nil), mixed⟩) Tryd.func42 (by kernel_rfl) (by kernel_rfl) p_slices_IndexFunc_Lint_int_ring_RightF1 [.h (.sl (.i .i64)), .k (.v (.func (.func 40) ⟨[]⟩ ⟨[]⟩))] [] [(.sl (.i .i64))] r_slices_IndexFunc_Lint_int_ring_RightF1 false true [] (by kernel_rfl) (fun y => by kernel_rfl) (fun _ => ⟨rfl, rfl⟩) (fun y => by kernel_rfl) (m_slices_IndexFunc_Lint_int_ring_RightF1 N) (fun x => by kernel_rfl)
/-! slices.ContainsFunc[[]int,int] -/
noncomputable def ct_slices_ContainsFunc_Lint_int_ring_RightF1 (N : Nat) : List Ctr := [c_slices_IndexFunc_Lint_int_ring_RightF1 N]
def p_slices_ContainsFunc_Lint_int_ring_RightF1 : Pl := .z
def r_slices_ContainsFunc_Lint_int_ring_RightF1 : PS := ⟨[(4, .h .b)], [], [.b]⟩
noncomputable def m_slices_ContainsFunc_Lint_int_ring_RightF1 (N : Nat) : (List Int) → Option (Bool) := exF T ct_slices_ContainsFunc_Lint_int_ring_RightF1 N (bodyOf Tryd.f28) 9 p_slices_ContainsFunc_Lint_int_ring_RightF1 [.h (.sl (.i .i64)), .k (.v (.func (.func 40) ⟨[]⟩ ⟨[]⟩))] [] [(.sl (.i .i64))] r_slices_ContainsFunc_Lint_int_ring_RightF1
noncomputable def c_slices_ContainsFunc_Lint_int_ring_RightF1 (N : Nat) : Ctr := ⟨28, [.h (.sl (.i .i64)), .k (.v (.func (.func 40) ⟨[]⟩ ⟨[]⟩))], [], [(.sl (.i .i64))], r_slices_ContainsFunc_Lint_int_ring_RightF1.c, m_slices_ContainsFunc_Lint_int_ring_RightF1 N, fun y => resG T (mkPS 9 r_slices_ContainsFunc_Lint_int_ring_RightF1 y) Tryd.f28.results.toList, false, true, fun y => keepH' [] (mkPS 9 r_slices_ContainsFunc_Lint_int_ring_RightF1 y).h⟩
theorem m_slices_ContainsFunc_Lint_int_ring_RightF1_eq (N : Nat) (s : (List Int)) : m_slices_ContainsFunc_Lint_int_ring_RightF1 (N + 1) (s) = obind (m_slices_IndexFunc_Lint_int_ring_RightF1 N s) fun z1 =>
  some (decide ((0 : Int) ≤ z1)) := by kernel_rfl
theorem c_slices_ContainsFunc_Lint_int_ring_RightF1_ok (N : Nat) : (c_slices_ContainsFunc_Lint_int_ring_RightF1 N).ok Tryd.prog := exF_ok (T := T) (CT := ct_slices_ContainsFunc_Lint_int_ring_RightF1) (N := N) (fun M => ⟨tOk, (ctAll_cons (c_slices_IndexFunc_Lint_int_ring_RightF1_ok M) ctAll_nil), mixed⟩) Tryd.func28 (by kernel_rfl) (by kernel_rfl) p_slices_ContainsFunc_Lint_int_ring_RightF1 [.h (.sl (.i .i64)), .k (.v (.func (.func 40) ⟨[]⟩ ⟨[]⟩))] [] [(.sl (.i .i64))] r_slices_ContainsFunc_Lint_int_ring_RightF1 false true [] (by kernel_rfl) (fun y => by kernel_rfl) (fun _ => ⟨rfl, rfl⟩) (fun y => by kernel_rfl) (m_slices_ContainsFunc_Lint_int_ring_RightF1 N) (fun x => by kernel_rfl)
/-! archipelago/ring.once[int] -/
noncomputable def ct_ring_once_int (N : Nat) : List Ctr := []
def i_ring_once_int_1 : PS := ⟨[(0, .h (.sl (.i .i64))), (3, .k (.mp 900)), (7, .h (.sl (.i .i64))), (8, .h (.i .i64)), (9, .h (.i .i64))], [(900, .mp (.int .i64) (.i .i64) (.i .i64))], [(.sl (.i .i64)), (.sl (.i .i64)), (.i .i64), (.i .i64), (.sl (.pr (.i .i64) (.i .i64)))]⟩
def o_ring_once_int_1 : List (Exit × PS) := [((.exit 0), ⟨[(0, .h (.sl (.i .i64))), (3, .k (.mp 900))], [(900, .mp (.int .i64) (.i .i64) (.i .i64))], [(.sl (.i .i64)), (.sl (.pr (.i .i64) (.i .i64)))]⟩)]
def p_ring_once_int_1 : Pl := .z
noncomputable def l_ring_once_int_1 (N : Nat) : Nat → (List Int) × (List Int) × Int × Int × (List (Int × Int)) → Option ((List Int) × (List (Int × Int))) := loopF (exC T (ct_ring_once_int N) N (codeAt [1, 1, 0, 1, 0, 0] (bodyOf Tryd.f41))) 23 i_ring_once_int_1 o_ring_once_int_1 p_ring_once_int_1
def p_ring_once_int : Pl := (.n .z (.n .z (.n (.n .z (.n (.loop i_ring_once_int_1 o_ring_once_int_1 p_ring_once_int_1) .z)) .z)))
def r_ring_once_int : PS := ⟨[(2, .h .b)], [], [.b]⟩
noncomputable def m_ring_once_int (N : Nat) : (List Int) → Option (Bool) := exF T ct_ring_once_int N (bodyOf Tryd.f41) 23 p_ring_once_int [.h (.sl (.i .i64))] [] [(.sl (.i .i64))] r_ring_once_int
noncomputable def c_ring_once_int (N : Nat) : Ctr := ⟨41, [.h (.sl (.i .i64))], [], [(.sl (.i .i64))], r_ring_once_int.c, m_ring_once_int N, fun y => resG T (mkPS 23 r_ring_once_int y) Tryd.f41.results.toList, false, true, fun y => keepH' [] (mkPS 23 r_ring_once_int y).h⟩
theorem l_ring_once_int_1_z (N : Nat) (v : (List Int) × (List Int) × Int × Int × (List (Int × Int))) : l_ring_once_int_1 N 0 v = none := by kernel_rfl
theorem l_ring_once_int_1_s (N m : Nat) (l : (List Int)) (v7 : (List Int)) (v8 : Int) (v9 : Int) (met : (List (Int × Int))) : l_ring_once_int_1 N (m + 1) (l, v7, v8, v9, met) = cond (decide (v9 < v8))
   (obind (nthI v7 v9) fun z1 =>
    (l_ring_once_int_1 N m (l, (v7, (v8, ((IntKind.wrap .i64 (v9 + (1 : Int))), (mput (.i .i64) met z1 (IntKind.wrap .i64 ((Option.getD (mget (.i .i64) met z1) (0 : Int)) + (1 : Int))))))))))
   (some (l, met)) := by kernel_rfl
theorem m_ring_once_int_eq (N : Nat) (l : (List Int)) : m_ring_once_int (N + 1) (l) = obind (l_ring_once_int_1 N N (l, (l, ((((List.length l) : Nat) : Int), ((0 : Int), []))))) fun z1 =>
  some (decide ((((List.length z1.2) : Nat) : Int) = (((List.length z1.1) : Nat) : Int))) := by kernel_rfl
theorem c_ring_once_int_ok (N : Nat) : (c_ring_once_int N).ok Tryd.prog := exF_ok (T := T) (CT := ct_ring_once_int) (N := N) (fun M => ⟨tOk, ctAll_nil, mixed⟩) Tryd.func41 (by kernel_rfl) (by kernel_rfl) p_ring_once_int [.h (.sl (.i .i64))] [] [(.sl (.i .i64))] r_ring_once_int false true [] (by kernel_rfl) (fun y => by kernel_rfl) (fun _ => ⟨rfl, rfl⟩) (fun y => by kernel_rfl) (m_ring_once_int N) (fun x => by kernel_rfl)
/-! archipelago/ring.Right -/
noncomputable def ct_ring_Right (N : Nat) : List Ctr := [c_slices_ContainsFunc_Lint_int_ring_RightF1 N, c_ring_once_int N]
def p_ring_Right : Pl := .z
def r_ring_Right : PS := ⟨[(2, .h .b)], [], [.b]⟩
noncomputable def m_ring_Right (N : Nat) : (List Int) → Option (Bool) := exF T ct_ring_Right N (bodyOf Tryd.f27) 15 p_ring_Right [.h (.sl (.i .i64))] [] [(.sl (.i .i64))] r_ring_Right
noncomputable def c_ring_Right (N : Nat) : Ctr := ⟨27, [.h (.sl (.i .i64))], [], [(.sl (.i .i64))], r_ring_Right.c, m_ring_Right N, fun y => resG T (mkPS 15 r_ring_Right y) Tryd.f27.results.toList, false, true, fun y => keepH' [] (mkPS 15 r_ring_Right y).h⟩
theorem m_ring_Right_eq (N : Nat) (l : (List Int)) : m_ring_Right (N + 1) (l) = cond (decide ((1000 : Int) < (((List.length l) : Nat) : Int)))
   (some false)
   (obind (m_slices_ContainsFunc_Lint_int_ring_RightF1 N l) fun z1 =>
    cond (!z1)
     (obind (m_ring_once_int N l) fun z2 =>
      some z2)
     (some false)) := by kernel_rfl
theorem c_ring_Right_ok (N : Nat) : (c_ring_Right N).ok Tryd.prog := exF_ok (T := T) (CT := ct_ring_Right) (N := N) (fun M => ⟨tOk, (ctAll_cons (c_slices_ContainsFunc_Lint_int_ring_RightF1_ok M) (ctAll_cons (c_ring_once_int_ok M) ctAll_nil)), mixed⟩) Tryd.func27 (by kernel_rfl) (by kernel_rfl) p_ring_Right [.h (.sl (.i .i64))] [] [(.sl (.i .i64))] r_ring_Right false true [] (by kernel_rfl) (fun y => by kernel_rfl) (fun _ => ⟨rfl, rfl⟩) (fun y => by kernel_rfl) (m_ring_Right N) (fun x => by kernel_rfl)
/-! archipelago/tower.high -/
noncomputable def ct_tower_high (N : Nat) : List Ctr := []
def p_tower_high : Pl := .z
def r_tower_high : PS := ⟨[(2, .h .b)], [], [.b]⟩
noncomputable def m_tower_high (N : Nat) : Int → Option (Bool) := exF T ct_tower_high N (bodyOf Tryd.f26) 9 p_tower_high [.h (.i .i64)] [] [(.i .i64)] r_tower_high
noncomputable def c_tower_high (N : Nat) : Ctr := ⟨26, [.h (.i .i64)], [], [(.i .i64)], r_tower_high.c, m_tower_high N, fun y => resG T (mkPS 9 r_tower_high y) Tryd.f26.results.toList, false, true, fun y => keepH' [] (mkPS 9 r_tower_high y).h⟩
theorem m_tower_high_eq (N : Nat) (h : Int) : m_tower_high (N + 1) (h) = cond (decide ((1 : Int) ≤ h))
   (some (decide (h ≤ (8 : Int))))
   (some false) := by kernel_rfl
theorem c_tower_high_ok (N : Nat) : (c_tower_high N).ok Tryd.prog := exF_ok (T := T) (CT := ct_tower_high) (N := N) (fun M => ⟨tOk, ctAll_nil, mixed⟩) Tryd.func26 (by kernel_rfl) (by kernel_rfl) p_tower_high [.h (.i .i64)] [] [(.i .i64)] r_tower_high false true [] (by kernel_rfl) (fun y => by kernel_rfl) (fun _ => ⟨rfl, rfl⟩) (fun y => by kernel_rfl) (m_tower_high N) (fun x => by kernel_rfl)
/-! archipelago/tower.Build$1 -/
noncomputable def ct_tower_BuildF1 (N : Nat) : List Ctr := [c_tower_high N]
def p_tower_BuildF1 : Pl := .z
def r_tower_BuildF1 : PS := ⟨[(2, .h .b)], [], [.b]⟩
noncomputable def m_tower_BuildF1 (N : Nat) : Int → Option (Bool) := exF T ct_tower_BuildF1 N (bodyOf Tryd.f25) 6 p_tower_BuildF1 [.h (.i .i64)] [] [(.i .i64)] r_tower_BuildF1
noncomputable def c_tower_BuildF1 (N : Nat) : Ctr := ⟨25, [.h (.i .i64)], [], [(.i .i64)], r_tower_BuildF1.c, m_tower_BuildF1 N, fun y => resG T (mkPS 6 r_tower_BuildF1 y) Tryd.f25.results.toList, false, true, fun y => keepH' [] (mkPS 6 r_tower_BuildF1 y).h⟩
theorem m_tower_BuildF1_eq (N : Nat) (h : Int) : m_tower_BuildF1 (N + 1) (h) = obind (m_tower_high N h) fun z1 =>
  some (!z1) := by kernel_rfl
theorem c_tower_BuildF1_ok (N : Nat) : (c_tower_BuildF1 N).ok Tryd.prog := exF_ok (T := T) (CT := ct_tower_BuildF1) (N := N) (fun M => ⟨tOk, (ctAll_cons (c_tower_high_ok M) ctAll_nil), mixed⟩) Tryd.func25 (by kernel_rfl) (by kernel_rfl) p_tower_BuildF1 [.h (.i .i64)] [] [(.i .i64)] r_tower_BuildF1 false true [] (by kernel_rfl) (fun y => by kernel_rfl) (fun _ => ⟨rfl, rfl⟩) (fun y => by kernel_rfl) (m_tower_BuildF1 N) (fun x => by kernel_rfl)
/-! slices.IndexFunc[[]int,int] -/
noncomputable def ct_slices_IndexFunc_Lint_int_tower_BuildF1 (N : Nat) : List Ctr := [c_tower_BuildF1 N]
def i_slices_IndexFunc_Lint_int_tower_BuildF1_1 : PS := ⟨[(0, .h (.sl (.i .i64))), (1, .k (.v (.func (.func 25) #[] #[]))), (7, .h (.i .i64)), (8, .h (.i .i64))], [], [(.sl (.i .i64)), (.i .i64), (.i .i64)]⟩
def o_slices_IndexFunc_Lint_int_tower_BuildF1_1 : List (Exit × PS) := [((.exit 0), ⟨[], [], []⟩), (.ret, ⟨[(4, .h (.i .i64))], [], [(.i .i64)]⟩)]
def p_slices_IndexFunc_Lint_int_tower_BuildF1_1 : Pl := .z
noncomputable def l_slices_IndexFunc_Lint_int_tower_BuildF1_1 (N : Nat) : Nat → (List Int) × Int × Int → Option ((Unit) ⊕ (Int)) := loopF (exC T (ct_slices_IndexFunc_Lint_int_tower_BuildF1 N) N (codeAt [1, 0, 1, 0, 0] (bodyOf Tryd.f42))) 19 i_slices_IndexFunc_Lint_int_tower_BuildF1_1 o_slices_IndexFunc_Lint_int_tower_BuildF1_1 p_slices_IndexFunc_Lint_int_tower_BuildF1_1
def p_slices_IndexFunc_Lint_int_tower_BuildF1 : Pl := (.n .z (.n (.n .z (.n (.loop i_slices_IndexFunc_Lint_int_tower_BuildF1_1 o_slices_IndexFunc_Lint_int_tower_BuildF1_1 p_slices_IndexFunc_Lint_int_tower_BuildF1_1) .z)) .z))
def r_slices_IndexFunc_Lint_int_tower_BuildF1 : PS := ⟨[(4, .h (.i .i64))], [], [(.i .i64)]⟩
noncomputable def m_slices_IndexFunc_Lint_int_tower_BuildF1 (N : Nat) : (List Int) → Option (Int) := exF T ct_slices_IndexFunc_Lint_int_tower_BuildF1 N (bodyOf Tryd.f42) 19 p_slices_IndexFunc_Lint_int_tower_BuildF1 [.h (.sl (.i .i64)), .k (.v (.func (.func 25) ⟨[]⟩ ⟨[]⟩))] [] [(.sl (.i .i64))] r_slices_IndexFunc_Lint_int_tower_BuildF1
noncomputable def c_slices_IndexFunc_Lint_int_tower_BuildF1 (N : Nat) : Ctr := ⟨42, [.h (.sl (.i .i64)), .k (.v (.func (.func 25) ⟨[]⟩ ⟨[]⟩))], [], [(.sl (.i .i64))], r_slices_IndexFunc_Lint_int_tower_BuildF1.c, m_slices_IndexFunc_Lint_int_tower_BuildF1 N, fun y => resG T (mkPS 19 r_slices_IndexFunc_Lint_int_tower_BuildF1 y) Tryd.f42.results.toList, false, true, fun y => keepH' [] (mkPS 19 r_slices_IndexFunc_Lint_int_tower_BuildF1 y).h⟩
theorem l_slices_IndexFunc_Lint_int_tower_BuildF1_1_z (N : Nat) (v : (List Int) × Int × Int) : l_slices_IndexFunc_Lint_int_tower_BuildF1_1 N 0 v = none := by kernel_rfl
theorem l_slices_IndexFunc_Lint_int_tower_BuildF1_1_s (N m : Nat) (s : (List Int)) (v7 : Int) (v8 : Int) : l_slices_IndexFunc_Lint_int_tower_BuildF1_1 N (m + 1) (s, v7, v8) = cond (decide (v8 < v7))
   (obind (nthI s v8) fun z1 =>
    obind (m_tower_BuildF1 N z1) fun z2 =>
    cond z2
     (some (.inr v8))
     ((l_slices_IndexFunc_Lint_int_tower_BuildF1_1 N m (s, (v7, (IntKind.wrap .i64 (v8 + (1 : Int))))))))
   (some (.inl ())) := by kernel_rfl
theorem m_slices_IndexFunc_Lint_int_tower_BuildF1_eq (N : Nat) (s : (List Int)) : m_slices_IndexFunc_Lint_int_tower_BuildF1 (N + 1) (s) = obind (l_slices_IndexFunc_Lint_int_tower_BuildF1_1 N N (s, ((((List.length s) : Nat) : Int), (0 : Int)))) fun z1 =>
  (match z1 with
  | .inl zy2 => some (-(1 : Int))
  | .inr zy3 => some zy3) := by kernel_rfl
theorem c_slices_IndexFunc_Lint_int_tower_BuildF1_ok (N : Nat) : (c_slices_IndexFunc_Lint_int_tower_BuildF1 N).ok Tryd.prog := exF_ok (T := T) (CT := ct_slices_IndexFunc_Lint_int_tower_BuildF1) (N := N) (fun M => ⟨tOk, (ctAll_cons (c_tower_BuildF1_ok M) ctAll_nil), mixed⟩) Tryd.func42 (by kernel_rfl) (by kernel_rfl) p_slices_IndexFunc_Lint_int_tower_BuildF1 [.h (.sl (.i .i64)), .k (.v (.func (.func 25) ⟨[]⟩ ⟨[]⟩))] [] [(.sl (.i .i64))] r_slices_IndexFunc_Lint_int_tower_BuildF1 false true [] (by kernel_rfl) (fun y => by kernel_rfl) (fun _ => ⟨rfl, rfl⟩) (fun y => by kernel_rfl) (m_slices_IndexFunc_Lint_int_tower_BuildF1 N) (fun x => by kernel_rfl)
/-! slices.ContainsFunc[[]int,int] -/
noncomputable def ct_slices_ContainsFunc_Lint_int_tower_BuildF1 (N : Nat) : List Ctr := [c_slices_IndexFunc_Lint_int_tower_BuildF1 N]
def p_slices_ContainsFunc_Lint_int_tower_BuildF1 : Pl := .z
def r_slices_ContainsFunc_Lint_int_tower_BuildF1 : PS := ⟨[(4, .h .b)], [], [.b]⟩
noncomputable def m_slices_ContainsFunc_Lint_int_tower_BuildF1 (N : Nat) : (List Int) → Option (Bool) := exF T ct_slices_ContainsFunc_Lint_int_tower_BuildF1 N (bodyOf Tryd.f28) 9 p_slices_ContainsFunc_Lint_int_tower_BuildF1 [.h (.sl (.i .i64)), .k (.v (.func (.func 25) ⟨[]⟩ ⟨[]⟩))] [] [(.sl (.i .i64))] r_slices_ContainsFunc_Lint_int_tower_BuildF1
noncomputable def c_slices_ContainsFunc_Lint_int_tower_BuildF1 (N : Nat) : Ctr := ⟨28, [.h (.sl (.i .i64)), .k (.v (.func (.func 25) ⟨[]⟩ ⟨[]⟩))], [], [(.sl (.i .i64))], r_slices_ContainsFunc_Lint_int_tower_BuildF1.c, m_slices_ContainsFunc_Lint_int_tower_BuildF1 N, fun y => resG T (mkPS 9 r_slices_ContainsFunc_Lint_int_tower_BuildF1 y) Tryd.f28.results.toList, false, true, fun y => keepH' [] (mkPS 9 r_slices_ContainsFunc_Lint_int_tower_BuildF1 y).h⟩
theorem m_slices_ContainsFunc_Lint_int_tower_BuildF1_eq (N : Nat) (s : (List Int)) : m_slices_ContainsFunc_Lint_int_tower_BuildF1 (N + 1) (s) = obind (m_slices_IndexFunc_Lint_int_tower_BuildF1 N s) fun z1 =>
  some (decide ((0 : Int) ≤ z1)) := by kernel_rfl
theorem c_slices_ContainsFunc_Lint_int_tower_BuildF1_ok (N : Nat) : (c_slices_ContainsFunc_Lint_int_tower_BuildF1 N).ok Tryd.prog := exF_ok (T := T) (CT := ct_slices_ContainsFunc_Lint_int_tower_BuildF1) (N := N) (fun M => ⟨tOk, (ctAll_cons (c_slices_IndexFunc_Lint_int_tower_BuildF1_ok M) ctAll_nil), mixed⟩) Tryd.func28 (by kernel_rfl) (by kernel_rfl) p_slices_ContainsFunc_Lint_int_tower_BuildF1 [.h (.sl (.i .i64)), .k (.v (.func (.func 25) ⟨[]⟩ ⟨[]⟩))] [] [(.sl (.i .i64))] r_slices_ContainsFunc_Lint_int_tower_BuildF1 false true [] (by kernel_rfl) (fun y => by kernel_rfl) (fun _ => ⟨rfl, rfl⟩) (fun y => by kernel_rfl) (m_slices_ContainsFunc_Lint_int_tower_BuildF1 N) (fun x => by kernel_rfl)
/-! slices.Clone[[]int,int] -/
noncomputable def ct_slices_Clone_Lint_int (N : Nat) : List Ctr := []
def p_slices_Clone_Lint_int : Pl := .z
def r_slices_Clone_Lint_int : PS := ⟨[(2, .k (.ow 900))], [(900, .arr 3 (.i .i64) true)], [(.sl (.i .i64))]⟩
noncomputable def m_slices_Clone_Lint_int (N : Nat) : (List Int) → Option ((List Int)) := exF T ct_slices_Clone_Lint_int N (bodyOf Tryd.f29) 8 p_slices_Clone_Lint_int [.h (.sl (.i .i64))] [] [(.sl (.i .i64))] r_slices_Clone_Lint_int
noncomputable def c_slices_Clone_Lint_int (N : Nat) : Ctr := ⟨29, [.h (.sl (.i .i64))], [], [(.sl (.i .i64))], r_slices_Clone_Lint_int.c, m_slices_Clone_Lint_int N, fun y => resG T (mkPS 8 r_slices_Clone_Lint_int y) Tryd.f29.results.toList, true, true, fun y => keepH' [900] (mkPS 8 r_slices_Clone_Lint_int y).h⟩
theorem m_slices_Clone_Lint_int_eq (N : Nat) (s : (List Int)) : m_slices_Clone_Lint_int (N + 1) (s) = cond (isNilB s)
   (dem fun zb1 =>
    cond zb1
     (some [])
     (obind (appI (8 : Nat) [] s) fun z2 =>
      some z2))
   (obind (appI (8 : Nat) [] s) fun z3 =>
    some z3) := by kernel_rfl
theorem c_slices_Clone_Lint_int_ok (N : Nat) : (c_slices_Clone_Lint_int N).ok Tryd.prog := exF_ok (T := T) (CT := ct_slices_Clone_Lint_int) (N := N) (fun M => ⟨tOk, ctAll_nil, mixed⟩) Tryd.func29 (by kernel_rfl) (by kernel_rfl) p_slices_Clone_Lint_int [.h (.sl (.i .i64))] [] [(.sl (.i .i64))] r_slices_Clone_Lint_int true true [900] (by kernel_rfl) (fun y => by kernel_rfl) (fun h => by cases h) (fun y => by kernel_rfl) (m_slices_Clone_Lint_int N) (fun x => by kernel_rfl)
/-! archipelago/tower.Build -/
noncomputable def ct_tower_Build (N : Nat) : List Ctr := [c_ring_Right N, c_slices_ContainsFunc_Lint_int_tower_BuildF1 N, c_slices_Clone_Lint_int N]
def i_tower_Build_3 : PS := ⟨[(1, .h (.sl (.i .i64))), (4, .k (.pt 900 0)), (6, .h (.i .i64)), (8, .k (.pt 901 0)), (9, .k (.pt 902 0)), (11, .h (.i .i64)), (42, .h (.i .i64)), (43, .h (.i .i64)), (68, .h (.i .i64)), (69, .h (.i .i64))], [(900, .box 27 [.k .nil, .k .nil, .k .nil]), (901, .box 27 [.k (.ow 903), .k (.ow 904), .k (.ow 905)]), (902, .arr 46 (.i .i64) true), (903, .arr 3 (.i .i64) true), (904, .arr 3 (.i .i64) true), (905, .arr 22 (.sl (.i .i64)) true)], [(.sl (.i .i64)), (.i .i64), (.i .i64), (.i .i64), (.i .i64), (.i .i64), (.i .i64), (.sl (.i .i64)), (.sl (.i .i64)), (.sl (.i .i64)), (.sl (.sl (.i .i64)))]⟩
def o_tower_Build_3 : List (Exit × PS) := [((.exit 2), ⟨[(1, .h (.sl (.i .i64))), (4, .k (.pt 900 0)), (6, .h (.i .i64)), (8, .k (.pt 901 0)), (9, .k (.pt 902 0)), (42, .h (.i .i64)), (43, .h (.i .i64))], [(900, .box 27 [.k .nil, .k .nil, .k .nil]), (901, .box 27 [.k (.ow 903), .k (.ow 904), .k (.ow 905)]), (902, .arr 46 (.i .i64) true), (903, .arr 3 (.i .i64) true), (904, .arr 3 (.i .i64) true), (905, .arr 22 (.sl (.i .i64)) true)], [(.sl (.i .i64)), (.i .i64), (.i .i64), (.i .i64), (.sl (.i .i64)), (.sl (.i .i64)), (.sl (.i .i64)), (.sl (.sl (.i .i64)))]⟩)]
def p_tower_Build_3 : Pl := .z
noncomputable def l_tower_Build_3 (N : Nat) : Nat → (List Int) × Int × Int × Int × Int × Int × Int × (List Int) × (List Int) × (List Int) × (List (List Int)) → Option ((List Int) × Int × Int × Int × (List Int) × (List Int) × (List Int) × (List (List Int))) := loopF (exC T (ct_tower_Build N) N (codeAt [1, 1, 1, 1, 1, 1, 0, 1, 0, 0, 1, 1, 0, 0, 1, 1, 1, 1, 0, 0] (bodyOf Tryd.f9))) 78 i_tower_Build_3 o_tower_Build_3 p_tower_Build_3
def i_tower_Build_2 : PS := ⟨[(1, .h (.sl (.i .i64))), (4, .k (.pt 900 0)), (6, .h (.i .i64)), (8, .k (.pt 901 0)), (9, .k (.pt 902 0)), (10, .h (.i .i64)), (11, .h (.i .i64)), (42, .h (.i .i64)), (43, .h (.i .i64))], [(900, .box 27 [.k .nil, .k .nil, .k .nil]), (901, .box 27 [.k (.ow 903), .k (.ow 904), .k (.ow 905)]), (902, .arr 46 (.i .i64) true), (903, .arr 3 (.i .i64) true), (904, .arr 3 (.i .i64) true), (905, .arr 22 (.sl (.i .i64)) true)], [(.sl (.i .i64)), (.i .i64), (.i .i64), (.i .i64), (.i .i64), (.i .i64), (.sl (.i .i64)), (.sl (.i .i64)), (.sl (.i .i64)), (.sl (.sl (.i .i64)))]⟩
def o_tower_Build_2 : List (Exit × PS) := [(.normal, ⟨[(1, .h (.sl (.i .i64))), (4, .k (.pt 900 0)), (6, .h (.i .i64)), (8, .k (.pt 901 0)), (9, .k (.pt 902 0)), (11, .h (.i .i64)), (42, .h (.i .i64)), (43, .h (.i .i64))], [(900, .box 27 [.k .nil, .k .nil, .k .nil]), (901, .box 27 [.k (.ow 903), .k (.ow 904), .k (.ow 905)]), (902, .arr 46 (.i .i64) true), (903, .arr 3 (.i .i64) true), (904, .arr 3 (.i .i64) true), (905, .arr 22 (.sl (.i .i64)) true)], [(.sl (.i .i64)), (.i .i64), (.i .i64), (.i .i64), (.i .i64), (.sl (.i .i64)), (.sl (.i .i64)), (.sl (.i .i64)), (.sl (.sl (.i .i64)))]⟩)]
def p_tower_Build_2 : Pl := .z
noncomputable def l_tower_Build_2 (N : Nat) : Nat → (List Int) × Int × Int × Int × Int × Int × (List Int) × (List Int) × (List Int) × (List (List Int)) → Option ((List Int) × Int × Int × Int × Int × (List Int) × (List Int) × (List Int) × (List (List Int))) := joinF (exC0 T (ct_tower_Build N) N (codeAt [1, 1, 1, 1, 1, 1, 0, 1, 0, 0, 1, 1, 0, 0, 1, 1, 0] (bodyOf Tryd.f9))) 78 i_tower_Build_2 o_tower_Build_2 p_tower_Build_2
def i_tower_Build_1 : PS := ⟨[(1, .h (.sl (.i .i64))), (4, .k (.pt 900 0)), (6, .h (.i .i64)), (8, .k (.pt 901 0)), (9, .k (.pt 902 0)), (42, .h (.i .i64)), (43, .h (.i .i64))], [(900, .box 27 [.k .nil, .k .nil, .k .nil]), (901, .box 27 [.k (.ow 903), .k (.ow 904), .k (.ow 905)]), (902, .arr 46 (.i .i64) true), (903, .arr 3 (.i .i64) true), (904, .arr 3 (.i .i64) true), (905, .arr 22 (.sl (.i .i64)) true)], [(.sl (.i .i64)), (.i .i64), (.i .i64), (.i .i64), (.sl (.i .i64)), (.sl (.i .i64)), (.sl (.i .i64)), (.sl (.sl (.i .i64)))]⟩
def o_tower_Build_1 : List (Exit × PS) := [((.exit 0), ⟨[(4, .k (.pt 900 0)), (8, .k (.pt 901 0))], [(900, .box 27 [.k .nil, .k .nil, .k .nil]), (901, .box 27 [.k (.ow 902), .k (.ow 903), .k (.ow 904)]), (902, .arr 3 (.i .i64) true), (903, .arr 3 (.i .i64) true), (904, .arr 22 (.sl (.i .i64)) true)], [(.sl (.i .i64)), (.sl (.i .i64)), (.sl (.sl (.i .i64)))]⟩)]
def p_tower_Build_1 : Pl := (.n .z (.n .z (.n (.n (.n .z (.n .z (.n (.join i_tower_Build_2 o_tower_Build_2 p_tower_Build_2) (.n .z (.n (.loop i_tower_Build_3 o_tower_Build_3 p_tower_Build_3) .z))))) .z) .z)))
noncomputable def l_tower_Build_1 (N : Nat) : Nat → (List Int) × Int × Int × Int × (List Int) × (List Int) × (List Int) × (List (List Int)) → Option ((List Int) × (List Int) × (List (List Int))) := loopF (exC T (ct_tower_Build N) N (codeAt [1, 1, 1, 1, 1, 1, 0, 1, 0, 0] (bodyOf Tryd.f9))) 78 i_tower_Build_1 o_tower_Build_1 p_tower_Build_1
def p_tower_Build : Pl := (.n .z (.n .z (.n .z (.n .z (.n .z (.n .z (.n (.n .z (.n (.loop i_tower_Build_1 o_tower_Build_1 p_tower_Build_1) .z)) .z)))))))
def r_tower_Build : PS := ⟨[(4, .k (.pt 900 0)), (5, .h (.i .i64))], [(900, .box 27 [.h (.sl (.i .i64)), .h (.sl (.i .i64)), .h (.sl (.sl (.i .i64)))])], [(.i .i64), (.sl (.i .i64)), (.sl (.i .i64)), (.sl (.sl (.i .i64)))]⟩
noncomputable def m_tower_Build (N : Nat) : (List Int) × (List Int) → Option (Int × (List Int) × (List Int) × (List (List Int))) := exF T ct_tower_Build N (bodyOf Tryd.f9) 78 p_tower_Build [.h (.sl (.i .i64)), .h (.sl (.i .i64))] [] [(.sl (.i .i64)), (.sl (.i .i64))] r_tower_Build
noncomputable def c_tower_Build (N : Nat) : Ctr := ⟨9, [.h (.sl (.i .i64)), .h (.sl (.i .i64))], [], [(.sl (.i .i64)), (.sl (.i .i64))], r_tower_Build.c, m_tower_Build N, fun y => resG T (mkPS 78 r_tower_Build y) Tryd.f9.results.toList, false, false, fun y => keepH' [] (mkPS 78 r_tower_Build y).h⟩
theorem l_tower_Build_3_z (N : Nat) (v : (List Int) × Int × Int × Int × Int × Int × Int × (List Int) × (List Int) × (List Int) × (List (List Int))) : l_tower_Build_3 N 0 v = none := by kernel_rfl
theorem l_tower_Build_3_s (N m : Nat) (heights : (List Int)) (n : Int) (i : Int) (v42 : Int) (v43 : Int) (v68 : Int) (v69 : Int) (behind : (List Int)) (v903 : (List Int)) (v904 : (List Int)) (v905 : (List (List Int))) : l_tower_Build_3 N (m + 1) (heights, n, i, v42, v43, v68, v69, behind, v903, v904, v905) = cond (decide (v69 < v68))
   (obind (nthI (List.range (8 : Nat)) v69) fun z1 =>
    obind (nthI behind v69) fun z2 =>
    obind (nthI behind v69) fun z3 =>
    (l_tower_Build_3 N m (heights, (n, (i, (v42, (v43, (v68, ((IntKind.wrap .i64 (v69 + (1 : Int))), ((List.set behind (Int.toNat v69) i), (v903, (v904, v905))))))))))))
   (some (heights, (n, (v42, (v43, (behind, (v903, (v904, v905)))))))) := by kernel_rfl
theorem l_tower_Build_2_s (N m : Nat) (heights : (List Int)) (n : Int) (k : Int) (i : Int) (v42 : Int) (v43 : Int) (behind : (List Int)) (v903 : (List Int)) (v904 : (List Int)) (v905 : (List (List Int))) : l_tower_Build_2 N (m + 1) (heights, n, k, i, v42, v43, behind, v903, v904, v905) = cond (decide (n ≤ k))
   (obind (nthI heights i) fun z1 =>
    obind (subI (List.replicate (8 : Nat) ()) (0 : Int) z1) fun z2 =>
    cond ((Nat.ble ((Int.toNat (0 : Int)) + (Int.toNat (z1 - (0 : Int)))) (List.length behind)) && true)
     (obind (m_slices_Clone_Lint_int N (List.take (Int.toNat (z1 - (0 : Int))) (List.drop (Int.toNat (0 : Int)) behind))) fun z3 =>
      obind (nthI v905 i) fun z4 =>
      obind (nthI v905 i) fun z5 =>
      some (heights, (n, (i, (v42, (v43, (behind, (v903, (v904, (List.set v905 (Int.toNat i) z3))))))))))
     (none))
   (some (heights, (n, (i, (v42, (v43, (behind, (v903, (v904, v905))))))))) := by kernel_rfl
theorem l_tower_Build_1_z (N : Nat) (v : (List Int) × Int × Int × Int × (List Int) × (List Int) × (List Int) × (List (List Int))) : l_tower_Build_1 N 0 v = none := by kernel_rfl
theorem l_tower_Build_1_s (N m : Nat) (heights : (List Int)) (n : Int) (v42 : Int) (v43 : Int) (behind : (List Int)) (v903 : (List Int)) (v904 : (List Int)) (v905 : (List (List Int))) : l_tower_Build_1 N (m + 1) (heights, n, v42, v43, behind, v903, v904, v905) = cond (decide (v43 < v42))
   (obind (remI v43 n) fun z1 =>
    obind (l_tower_Build_2 N N (heights, (n, (v43, ((IntKind.wrap .i64 ((IntKind.wrap .i64 (n - (1 : Int))) - z1)), (v42, (v43, (behind, (v903, (v904, v905)))))))))) fun z2 =>
    obind (nthI z2.1 z2.2.2.1) fun z3 =>
    obind (l_tower_Build_3 N N (z2.1, (z2.2.1, (z2.2.2.1, (z2.2.2.2.1, (z2.2.2.2.2.1, (z3, ((0 : Int), (z2.2.2.2.2.2.1, (z2.2.2.2.2.2.2.1, (z2.2.2.2.2.2.2.2.1, z2.2.2.2.2.2.2.2.2))))))))))) fun z4 =>
    (l_tower_Build_1 N m (z4.1, (z4.2.1, (z4.2.2.1, ((IntKind.wrap .i64 (z4.2.2.2.1 + (1 : Int))), (z4.2.2.2.2.1, (z4.2.2.2.2.2.1, (z4.2.2.2.2.2.2.1, z4.2.2.2.2.2.2.2)))))))))
   (some (v903, (v904, v905))) := by kernel_rfl
theorem m_tower_Build_eq (N : Nat) (tokens : (List Int)) (heights : (List Int)) : m_tower_Build (N + 1) (tokens, heights) = cond (decide ((((List.length tokens) : Nat) : Int) = (0 : Int)))
   (some ((1 : Int), ([], ([], []))))
   (cond (!(decide ((((List.length heights) : Nat) : Int) = (((List.length tokens) : Nat) : Int))))
     (some ((1 : Int), ([], ([], []))))
     (obind (m_ring_Right N tokens) fun z1 =>
      cond (!z1)
       (some ((1 : Int), ([], ([], []))))
       (obind (m_slices_ContainsFunc_Lint_int_tower_BuildF1 N heights) fun z2 =>
        cond z2
         (some ((1 : Int), ([], ([], []))))
         (obind (m_slices_Clone_Lint_int N tokens) fun z3 =>
          obind (m_slices_Clone_Lint_int N heights) fun z4 =>
          obind (makI (((List.length tokens) : Nat) : Int) (24 : Nat)) fun z5 =>
          obind (l_tower_Build_1 N N (heights, ((((List.length tokens) : Nat) : Int), ((IntKind.wrap .i64 ((2 : Int) * (((List.length tokens) : Nat) : Int))), ((0 : Int), ((List.replicate (8 : Nat) (0 : Int)), (z3, (z4, (List.replicate z5 []))))))))) fun z6 =>
          some ((0 : Int), (z6.1, (z6.2.1, z6.2.2))))))) := by kernel_rfl
theorem c_tower_Build_ok (N : Nat) : (c_tower_Build N).ok Tryd.prog := exF_ok (T := T) (CT := ct_tower_Build) (N := N) (fun M => ⟨tOk, (ctAll_cons (c_ring_Right_ok M) (ctAll_cons (c_slices_ContainsFunc_Lint_int_tower_BuildF1_ok M) (ctAll_cons (c_slices_Clone_Lint_int_ok M) ctAll_nil))), mixed⟩) Tryd.func9 (by kernel_rfl) (by kernel_rfl) p_tower_Build [.h (.sl (.i .i64)), .h (.sl (.i .i64))] [] [(.sl (.i .i64)), (.sl (.i .i64))] r_tower_Build false false [] (by kernel_rfl) (fun y => by kernel_rfl) (fun _ => ⟨rfl, rfl⟩) (fun y => by kernel_rfl) (m_tower_Build N) (fun x => by kernel_rfl)
/-! archipelago/archipelagoref01.Ints -/
noncomputable def ct_ref01_Ints (N : Nat) : List Ctr := []
def i_ref01_Ints_1 : PS := ⟨[(0, .h (.sl (.i .i64))), (1, .h (.sl (.i .i64))), (5, .h (.i .i64))], [], [(.sl (.i .i64)), (.sl (.i .i64)), (.i .i64)]⟩
def o_ref01_Ints_1 : List (Exit × PS) := [((.exit 0), ⟨[], [], []⟩), (.ret, ⟨[(4, .h .b)], [], [.b]⟩)]
def p_ref01_Ints_1 : Pl := .z
noncomputable def l_ref01_Ints_1 (N : Nat) : Nat → (List Int) × (List Int) × Int → Option ((Unit) ⊕ (Bool)) := loopF (exC T (ct_ref01_Ints N) N (codeAt [1, 1, 0, 1, 0, 0] (bodyOf Tryd.f12))) 26 i_ref01_Ints_1 o_ref01_Ints_1 p_ref01_Ints_1
def p_ref01_Ints : Pl := (.n .z (.n .z (.n (.n .z (.n (.loop i_ref01_Ints_1 o_ref01_Ints_1 p_ref01_Ints_1) .z)) .z)))
def r_ref01_Ints : PS := ⟨[(4, .h .b)], [], [.b]⟩
noncomputable def m_ref01_Ints (N : Nat) : (List Int) × (List Int) → Option (Bool) := exF T ct_ref01_Ints N (bodyOf Tryd.f12) 26 p_ref01_Ints [.h (.sl (.i .i64)), .h (.sl (.i .i64))] [] [(.sl (.i .i64)), (.sl (.i .i64))] r_ref01_Ints
noncomputable def c_ref01_Ints (N : Nat) : Ctr := ⟨12, [.h (.sl (.i .i64)), .h (.sl (.i .i64))], [], [(.sl (.i .i64)), (.sl (.i .i64))], r_ref01_Ints.c, m_ref01_Ints N, fun y => resG T (mkPS 26 r_ref01_Ints y) Tryd.f12.results.toList, false, true, fun y => keepH' [] (mkPS 26 r_ref01_Ints y).h⟩
theorem l_ref01_Ints_1_z (N : Nat) (v : (List Int) × (List Int) × Int) : l_ref01_Ints_1 N 0 v = none := by kernel_rfl
theorem l_ref01_Ints_1_s (N m : Nat) (a : (List Int)) (b : (List Int)) (i : Int) : l_ref01_Ints_1 N (m + 1) (a, b, i) = cond (decide (i < (((List.length a) : Nat) : Int)))
   (obind (nthI a i) fun z1 =>
    obind (nthI b i) fun z2 =>
    cond (!(decide (z1 = z2)))
     (some (.inr false))
     ((l_ref01_Ints_1 N m (a, (b, (IntKind.wrap .i64 (i + (1 : Int))))))))
   (some (.inl ())) := by kernel_rfl
theorem m_ref01_Ints_eq (N : Nat) (a : (List Int)) (b : (List Int)) : m_ref01_Ints (N + 1) (a, b) = cond (!(decide ((((List.length a) : Nat) : Int) = (((List.length b) : Nat) : Int))))
   (some false)
   (obind (l_ref01_Ints_1 N N (a, (b, (0 : Int)))) fun z1 =>
    (match z1 with
    | .inl zy2 => some true
    | .inr zy3 => some zy3)) := by kernel_rfl
theorem c_ref01_Ints_ok (N : Nat) : (c_ref01_Ints N).ok Tryd.prog := exF_ok (T := T) (CT := ct_ref01_Ints) (N := N) (fun M => ⟨tOk, ctAll_nil, mixed⟩) Tryd.func12 (by kernel_rfl) (by kernel_rfl) p_ref01_Ints [.h (.sl (.i .i64)), .h (.sl (.i .i64))] [] [(.sl (.i .i64)), (.sl (.i .i64))] r_ref01_Ints false true [] (by kernel_rfl) (fun y => by kernel_rfl) (fun _ => ⟨rfl, rfl⟩) (fun y => by kernel_rfl) (m_ref01_Ints N) (fun x => by kernel_rfl)
/-! slices.Equal[[]int,int] -/
noncomputable def ct_slices_Equal_Lint_int (N : Nat) : List Ctr := []
def i_slices_Equal_Lint_int_1 : PS := ⟨[(0, .h (.sl (.i .i64))), (1, .h (.sl (.i .i64))), (12, .h (.i .i64)), (13, .h (.i .i64))], [], [(.sl (.i .i64)), (.sl (.i .i64)), (.i .i64), (.i .i64)]⟩
def o_slices_Equal_Lint_int_1 : List (Exit × PS) := [((.exit 0), ⟨[], [], []⟩), (.ret, ⟨[(4, .h .b)], [], [.b]⟩)]
def p_slices_Equal_Lint_int_1 : Pl := .z
noncomputable def l_slices_Equal_Lint_int_1 (N : Nat) : Nat → (List Int) × (List Int) × Int × Int → Option ((Unit) ⊕ (Bool)) := loopF (exC T (ct_slices_Equal_Lint_int N) N (codeAt [1, 1, 0, 1, 0, 0] (bodyOf Tryd.f38))) 26 i_slices_Equal_Lint_int_1 o_slices_Equal_Lint_int_1 p_slices_Equal_Lint_int_1
def p_slices_Equal_Lint_int : Pl := (.n .z (.n .z (.n (.n .z (.n (.loop i_slices_Equal_Lint_int_1 o_slices_Equal_Lint_int_1 p_slices_Equal_Lint_int_1) .z)) .z)))
def r_slices_Equal_Lint_int : PS := ⟨[(4, .h .b)], [], [.b]⟩
noncomputable def m_slices_Equal_Lint_int (N : Nat) : (List Int) × (List Int) → Option (Bool) := exF T ct_slices_Equal_Lint_int N (bodyOf Tryd.f38) 26 p_slices_Equal_Lint_int [.h (.sl (.i .i64)), .h (.sl (.i .i64))] [] [(.sl (.i .i64)), (.sl (.i .i64))] r_slices_Equal_Lint_int
noncomputable def c_slices_Equal_Lint_int (N : Nat) : Ctr := ⟨38, [.h (.sl (.i .i64)), .h (.sl (.i .i64))], [], [(.sl (.i .i64)), (.sl (.i .i64))], r_slices_Equal_Lint_int.c, m_slices_Equal_Lint_int N, fun y => resG T (mkPS 26 r_slices_Equal_Lint_int y) Tryd.f38.results.toList, false, true, fun y => keepH' [] (mkPS 26 r_slices_Equal_Lint_int y).h⟩
theorem l_slices_Equal_Lint_int_1_z (N : Nat) (v : (List Int) × (List Int) × Int × Int) : l_slices_Equal_Lint_int_1 N 0 v = none := by kernel_rfl
theorem l_slices_Equal_Lint_int_1_s (N m : Nat) (s1 : (List Int)) (s2 : (List Int)) (v12 : Int) (v13 : Int) : l_slices_Equal_Lint_int_1 N (m + 1) (s1, s2, v12, v13) = cond (decide (v13 < v12))
   (obind (nthI s1 v13) fun z1 =>
    obind (nthI s2 v13) fun z2 =>
    cond (!(decide (z1 = z2)))
     (some (.inr false))
     ((l_slices_Equal_Lint_int_1 N m (s1, (s2, (v12, (IntKind.wrap .i64 (v13 + (1 : Int)))))))))
   (some (.inl ())) := by kernel_rfl
theorem m_slices_Equal_Lint_int_eq (N : Nat) (s1 : (List Int)) (s2 : (List Int)) : m_slices_Equal_Lint_int (N + 1) (s1, s2) = cond (!(decide ((((List.length s1) : Nat) : Int) = (((List.length s2) : Nat) : Int))))
   (some false)
   (obind (l_slices_Equal_Lint_int_1 N N (s1, (s2, ((((List.length s1) : Nat) : Int), (0 : Int))))) fun z1 =>
    (match z1 with
    | .inl zy2 => some true
    | .inr zy3 => some zy3)) := by kernel_rfl
theorem c_slices_Equal_Lint_int_ok (N : Nat) : (c_slices_Equal_Lint_int N).ok Tryd.prog := exF_ok (T := T) (CT := ct_slices_Equal_Lint_int) (N := N) (fun M => ⟨tOk, ctAll_nil, mixed⟩) Tryd.func38 (by kernel_rfl) (by kernel_rfl) p_slices_Equal_Lint_int [.h (.sl (.i .i64)), .h (.sl (.i .i64))] [] [(.sl (.i .i64)), (.sl (.i .i64))] r_slices_Equal_Lint_int false true [] (by kernel_rfl) (fun y => by kernel_rfl) (fun _ => ⟨rfl, rfl⟩) (fun y => by kernel_rfl) (m_slices_Equal_Lint_int N) (fun x => by kernel_rfl)
/-! slices.EqualFunc[[][]int,[][]int,[]int,[]int] -/
noncomputable def ct_slices_EqualFunc_LLint_LLint_Lint_Lint_slices_Equal_Lint_int (N : Nat) : List Ctr := [c_slices_Equal_Lint_int N]
def i_slices_EqualFunc_LLint_LLint_Lint_Lint_slices_Equal_Lint_int_1 : PS := ⟨[(1, .h (.sl (.sl (.i .i64)))), (2, .k (.v (.func (.func 38) #[] #[]))), (15, .h (.sl (.sl (.i .i64)))), (16, .h (.i .i64)), (17, .h (.i .i64))], [], [(.sl (.sl (.i .i64))), (.sl (.sl (.i .i64))), (.i .i64), (.i .i64)]⟩
def o_slices_EqualFunc_LLint_LLint_Lint_Lint_slices_Equal_Lint_int_1 : List (Exit × PS) := [((.exit 0), ⟨[], [], []⟩), (.ret, ⟨[(6, .h .b)], [], [.b]⟩)]
def p_slices_EqualFunc_LLint_LLint_Lint_Lint_slices_Equal_Lint_int_1 : Pl := .z
noncomputable def l_slices_EqualFunc_LLint_LLint_Lint_Lint_slices_Equal_Lint_int_1 (N : Nat) : Nat → (List (List Int)) × (List (List Int)) × Int × Int → Option ((Unit) ⊕ (Bool)) := loopF (exC T (ct_slices_EqualFunc_LLint_LLint_Lint_Lint_slices_Equal_Lint_int N) N (codeAt [1, 1, 0, 1, 0, 0] (bodyOf Tryd.f39))) 32 i_slices_EqualFunc_LLint_LLint_Lint_Lint_slices_Equal_Lint_int_1 o_slices_EqualFunc_LLint_LLint_Lint_Lint_slices_Equal_Lint_int_1 p_slices_EqualFunc_LLint_LLint_Lint_Lint_slices_Equal_Lint_int_1
def p_slices_EqualFunc_LLint_LLint_Lint_Lint_slices_Equal_Lint_int : Pl := (.n .z (.n .z (.n (.n .z (.n (.loop i_slices_EqualFunc_LLint_LLint_Lint_Lint_slices_Equal_Lint_int_1 o_slices_EqualFunc_LLint_LLint_Lint_Lint_slices_Equal_Lint_int_1 p_slices_EqualFunc_LLint_LLint_Lint_Lint_slices_Equal_Lint_int_1) .z)) .z)))
def r_slices_EqualFunc_LLint_LLint_Lint_Lint_slices_Equal_Lint_int : PS := ⟨[(6, .h .b)], [], [.b]⟩
noncomputable def m_slices_EqualFunc_LLint_LLint_Lint_Lint_slices_Equal_Lint_int (N : Nat) : (List (List Int)) × (List (List Int)) → Option (Bool) := exF T ct_slices_EqualFunc_LLint_LLint_Lint_Lint_slices_Equal_Lint_int N (bodyOf Tryd.f39) 32 p_slices_EqualFunc_LLint_LLint_Lint_Lint_slices_Equal_Lint_int [.h (.sl (.sl (.i .i64))), .h (.sl (.sl (.i .i64))), .k (.v (.func (.func 38) ⟨[]⟩ ⟨[]⟩))] [] [(.sl (.sl (.i .i64))), (.sl (.sl (.i .i64)))] r_slices_EqualFunc_LLint_LLint_Lint_Lint_slices_Equal_Lint_int
noncomputable def c_slices_EqualFunc_LLint_LLint_Lint_Lint_slices_Equal_Lint_int (N : Nat) : Ctr := ⟨39, [.h (.sl (.sl (.i .i64))), .h (.sl (.sl (.i .i64))), .k (.v (.func (.func 38) ⟨[]⟩ ⟨[]⟩))], [], [(.sl (.sl (.i .i64))), (.sl (.sl (.i .i64)))], r_slices_EqualFunc_LLint_LLint_Lint_Lint_slices_Equal_Lint_int.c, m_slices_EqualFunc_LLint_LLint_Lint_Lint_slices_Equal_Lint_int N, fun y => resG T (mkPS 32 r_slices_EqualFunc_LLint_LLint_Lint_Lint_slices_Equal_Lint_int y) Tryd.f39.results.toList, false, true, fun y => keepH' [] (mkPS 32 r_slices_EqualFunc_LLint_LLint_Lint_Lint_slices_Equal_Lint_int y).h⟩
theorem l_slices_EqualFunc_LLint_LLint_Lint_Lint_slices_Equal_Lint_int_1_z (N : Nat) (v : (List (List Int)) × (List (List Int)) × Int × Int) : l_slices_EqualFunc_LLint_LLint_Lint_Lint_slices_Equal_Lint_int_1 N 0 v = none := by kernel_rfl
theorem l_slices_EqualFunc_LLint_LLint_Lint_Lint_slices_Equal_Lint_int_1_s (N m : Nat) (s2 : (List (List Int))) (v15 : (List (List Int))) (v16 : Int) (v17 : Int) : l_slices_EqualFunc_LLint_LLint_Lint_Lint_slices_Equal_Lint_int_1 N (m + 1) (s2, v15, v16, v17) = cond (decide (v17 < v16))
   (obind (nthI v15 v17) fun z1 =>
    obind (nthI s2 v17) fun z2 =>
    obind (m_slices_Equal_Lint_int N (z1, z2)) fun z3 =>
    cond (!z3)
     (some (.inr false))
     ((l_slices_EqualFunc_LLint_LLint_Lint_Lint_slices_Equal_Lint_int_1 N m (s2, (v15, (v16, (IntKind.wrap .i64 (v17 + (1 : Int)))))))))
   (some (.inl ())) := by kernel_rfl
theorem m_slices_EqualFunc_LLint_LLint_Lint_Lint_slices_Equal_Lint_int_eq (N : Nat) (s1 : (List (List Int))) (s2 : (List (List Int))) : m_slices_EqualFunc_LLint_LLint_Lint_Lint_slices_Equal_Lint_int (N + 1) (s1, s2) = cond (!(decide ((((List.length s1) : Nat) : Int) = (((List.length s2) : Nat) : Int))))
   (some false)
   (obind (l_slices_EqualFunc_LLint_LLint_Lint_Lint_slices_Equal_Lint_int_1 N N (s2, (s1, ((((List.length s1) : Nat) : Int), (0 : Int))))) fun z1 =>
    (match z1 with
    | .inl zy2 => some true
    | .inr zy3 => some zy3)) := by kernel_rfl
theorem c_slices_EqualFunc_LLint_LLint_Lint_Lint_slices_Equal_Lint_int_ok (N : Nat) : (c_slices_EqualFunc_LLint_LLint_Lint_Lint_slices_Equal_Lint_int N).ok Tryd.prog := exF_ok (T := T) (CT := ct_slices_EqualFunc_LLint_LLint_Lint_Lint_slices_Equal_Lint_int) (N := N) (fun M => ⟨tOk, (ctAll_cons (c_slices_Equal_Lint_int_ok M) ctAll_nil), mixed⟩) Tryd.func39 (by kernel_rfl) (by kernel_rfl) p_slices_EqualFunc_LLint_LLint_Lint_Lint_slices_Equal_Lint_int [.h (.sl (.sl (.i .i64))), .h (.sl (.sl (.i .i64))), .k (.v (.func (.func 38) ⟨[]⟩ ⟨[]⟩))] [] [(.sl (.sl (.i .i64))), (.sl (.sl (.i .i64)))] r_slices_EqualFunc_LLint_LLint_Lint_Lint_slices_Equal_Lint_int false true [] (by kernel_rfl) (fun y => by kernel_rfl) (fun _ => ⟨rfl, rfl⟩) (fun y => by kernel_rfl) (m_slices_EqualFunc_LLint_LLint_Lint_Lint_slices_Equal_Lint_int N) (fun x => by kernel_rfl)
/-! archipelago/tower.Same -/
noncomputable def ct_tower_Same (N : Nat) : List Ctr := [c_slices_Equal_Lint_int N, c_slices_EqualFunc_LLint_LLint_Lint_Lint_slices_Equal_Lint_int N]
def p_tower_Same : Pl := .z
def r_tower_Same : PS := ⟨[(4, .h .b)], [], [.b]⟩
noncomputable def m_tower_Same (N : Nat) : (List Int) × (List Int) × (List (List Int)) × (List Int) × (List Int) × (List (List Int)) → Option (Bool) := exF T ct_tower_Same N (bodyOf Tryd.f24) 24 p_tower_Same [.ag [.h (.sl (.i .i64)), .h (.sl (.i .i64)), .h (.sl (.sl (.i .i64)))], .ag [.h (.sl (.i .i64)), .h (.sl (.i .i64)), .h (.sl (.sl (.i .i64)))]] [] [(.sl (.i .i64)), (.sl (.i .i64)), (.sl (.sl (.i .i64))), (.sl (.i .i64)), (.sl (.i .i64)), (.sl (.sl (.i .i64)))] r_tower_Same
noncomputable def c_tower_Same (N : Nat) : Ctr := ⟨24, [.ag [.h (.sl (.i .i64)), .h (.sl (.i .i64)), .h (.sl (.sl (.i .i64)))], .ag [.h (.sl (.i .i64)), .h (.sl (.i .i64)), .h (.sl (.sl (.i .i64)))]], [], [(.sl (.i .i64)), (.sl (.i .i64)), (.sl (.sl (.i .i64))), (.sl (.i .i64)), (.sl (.i .i64)), (.sl (.sl (.i .i64)))], r_tower_Same.c, m_tower_Same N, fun y => resG T (mkPS 24 r_tower_Same y) Tryd.f24.results.toList, false, true, fun y => keepH' [] (mkPS 24 r_tower_Same y).h⟩
theorem m_tower_Same_eq (N : Nat) (a : (List Int)) (a2 : (List Int)) (a3 : (List (List Int))) (b : (List Int)) (b2 : (List Int)) (b3 : (List (List Int))) : m_tower_Same (N + 1) (a, a2, a3, b, b2, b3) = obind (m_slices_Equal_Lint_int N (a, b)) fun z1 =>
  cond z1
   (obind (m_slices_Equal_Lint_int N (a2, b2)) fun z2 =>
    cond z2
     (obind (m_slices_EqualFunc_LLint_LLint_Lint_Lint_slices_Equal_Lint_int N (a3, b3)) fun z3 =>
      some z3)
     (some false))
   (some false) := by kernel_rfl
theorem c_tower_Same_ok (N : Nat) : (c_tower_Same N).ok Tryd.prog := exF_ok (T := T) (CT := ct_tower_Same) (N := N) (fun M => ⟨tOk, (ctAll_cons (c_slices_Equal_Lint_int_ok M) (ctAll_cons (c_slices_EqualFunc_LLint_LLint_Lint_Lint_slices_Equal_Lint_int_ok M) ctAll_nil)), mixed⟩) Tryd.func24 (by kernel_rfl) (by kernel_rfl) p_tower_Same [.ag [.h (.sl (.i .i64)), .h (.sl (.i .i64)), .h (.sl (.sl (.i .i64)))], .ag [.h (.sl (.i .i64)), .h (.sl (.i .i64)), .h (.sl (.sl (.i .i64)))]] [] [(.sl (.i .i64)), (.sl (.i .i64)), (.sl (.sl (.i .i64))), (.sl (.i .i64)), (.sl (.i .i64)), (.sl (.sl (.i .i64)))] r_tower_Same false true [] (by kernel_rfl) (fun y => by kernel_rfl) (fun _ => ⟨rfl, rfl⟩) (fun y => by kernel_rfl) (m_tower_Same N) (fun x => by kernel_rfl)
/-! archipelago/tower.Right -/
noncomputable def ct_tower_Right (N : Nat) : List Ctr := [c_tower_Build N, c_tower_Same N]
def p_tower_Right : Pl := .z
def r_tower_Right : PS := ⟨[(2, .h .b)], [], [.b]⟩
noncomputable def m_tower_Right (N : Nat) : (List Int) × (List Int) × (List (List Int)) → Option (Bool) := exF T ct_tower_Right N (bodyOf Tryd.f16) 20 p_tower_Right [.ag [.h (.sl (.i .i64)), .h (.sl (.i .i64)), .h (.sl (.sl (.i .i64)))]] [] [(.sl (.i .i64)), (.sl (.i .i64)), (.sl (.sl (.i .i64)))] r_tower_Right
noncomputable def c_tower_Right (N : Nat) : Ctr := ⟨16, [.ag [.h (.sl (.i .i64)), .h (.sl (.i .i64)), .h (.sl (.sl (.i .i64)))]], [], [(.sl (.i .i64)), (.sl (.i .i64)), (.sl (.sl (.i .i64)))], r_tower_Right.c, m_tower_Right N, fun y => resG T (mkPS 20 r_tower_Right y) Tryd.f16.results.toList, false, true, fun y => keepH' [] (mkPS 20 r_tower_Right y).h⟩
theorem m_tower_Right_eq (N : Nat) (t : (List Int)) (t2 : (List Int)) (t3 : (List (List Int))) : m_tower_Right (N + 1) (t, t2, t3) = obind (m_tower_Build N (t, t2)) fun z1 =>
  cond (decide (z1.1 = (0 : Int)))
   (obind (m_tower_Same N (z1.2.1, (z1.2.2.1, (z1.2.2.2, (t, (t2, t3)))))) fun z2 =>
    some z2)
   (some false) := by kernel_rfl
theorem c_tower_Right_ok (N : Nat) : (c_tower_Right N).ok Tryd.prog := exF_ok (T := T) (CT := ct_tower_Right) (N := N) (fun M => ⟨tOk, (ctAll_cons (c_tower_Build_ok M) (ctAll_cons (c_tower_Same_ok M) ctAll_nil)), mixed⟩) Tryd.func16 (by kernel_rfl) (by kernel_rfl) p_tower_Right [.ag [.h (.sl (.i .i64)), .h (.sl (.i .i64)), .h (.sl (.sl (.i .i64)))]] [] [(.sl (.i .i64)), (.sl (.i .i64)), (.sl (.sl (.i .i64)))] r_tower_Right false true [] (by kernel_rfl) (fun y => by kernel_rfl) (fun _ => ⟨rfl, rfl⟩) (fun y => by kernel_rfl) (m_tower_Right N) (fun x => by kernel_rfl)
/-! slices.Max[[]int,int] -/
noncomputable def ct_slices_Max_Lint_int (N : Nat) : List Ctr := []
def i_slices_Max_Lint_int_1 : PS := ⟨[(0, .h (.sl (.i .i64))), (3, .h (.i .i64)), (4, .h (.i .i64))], [], [(.sl (.i .i64)), (.i .i64), (.i .i64)]⟩
def o_slices_Max_Lint_int_1 : List (Exit × PS) := [((.exit 0), ⟨[(3, .h (.i .i64))], [], [(.i .i64)]⟩)]
def p_slices_Max_Lint_int_1 : Pl := .z
noncomputable def l_slices_Max_Lint_int_1 (N : Nat) : Nat → (List Int) × Int × Int → Option (Int) := loopF (exC T (ct_slices_Max_Lint_int N) N (codeAt [1, 1, 1, 0, 1, 0, 0] (bodyOf Tryd.f37))) 25 i_slices_Max_Lint_int_1 o_slices_Max_Lint_int_1 p_slices_Max_Lint_int_1
def p_slices_Max_Lint_int : Pl := (.n .z (.n .z (.n .z (.n (.n .z (.n (.loop i_slices_Max_Lint_int_1 o_slices_Max_Lint_int_1 p_slices_Max_Lint_int_1) .z)) .z))))
def r_slices_Max_Lint_int : PS := ⟨[(2, .h (.i .i64))], [], [(.i .i64)]⟩
noncomputable def m_slices_Max_Lint_int (N : Nat) : (List Int) → Option (Int) := exF T ct_slices_Max_Lint_int N (bodyOf Tryd.f37) 25 p_slices_Max_Lint_int [.h (.sl (.i .i64))] [] [(.sl (.i .i64))] r_slices_Max_Lint_int
noncomputable def c_slices_Max_Lint_int (N : Nat) : Ctr := ⟨37, [.h (.sl (.i .i64))], [], [(.sl (.i .i64))], r_slices_Max_Lint_int.c, m_slices_Max_Lint_int N, fun y => resG T (mkPS 25 r_slices_Max_Lint_int y) Tryd.f37.results.toList, false, true, fun y => keepH' [] (mkPS 25 r_slices_Max_Lint_int y).h⟩
theorem l_slices_Max_Lint_int_1_z (N : Nat) (v : (List Int) × Int × Int) : l_slices_Max_Lint_int_1 N 0 v = none := by kernel_rfl
theorem l_slices_Max_Lint_int_1_s (N m : Nat) (x : (List Int)) (v3 : Int) (i : Int) : l_slices_Max_Lint_int_1 N (m + 1) (x, v3, i) = cond (decide (i < (((List.length x) : Nat) : Int)))
   (obind (nthI x i) fun z1 =>
    (l_slices_Max_Lint_int_1 N m (x, ((if (z1 > v3) then z1 else v3), (IntKind.wrap .i64 (i + (1 : Int)))))))
   (some v3) := by kernel_rfl
theorem m_slices_Max_Lint_int_eq (N : Nat) (x : (List Int)) : m_slices_Max_Lint_int (N + 1) (x) = cond (decide ((((List.length x) : Nat) : Int) < (1 : Int)))
   (none)
   (obind (nthI x (0 : Int)) fun z1 =>
    obind (l_slices_Max_Lint_int_1 N N (x, (z1, (1 : Int)))) fun z2 =>
    some z2) := by kernel_rfl
theorem c_slices_Max_Lint_int_ok (N : Nat) : (c_slices_Max_Lint_int N).ok Tryd.prog := exF_ok (T := T) (CT := ct_slices_Max_Lint_int) (N := N) (fun M => ⟨tOk, ctAll_nil, mixed⟩) Tryd.func37 (by kernel_rfl) (by kernel_rfl) p_slices_Max_Lint_int [.h (.sl (.i .i64))] [] [(.sl (.i .i64))] r_slices_Max_Lint_int false true [] (by kernel_rfl) (fun y => by kernel_rfl) (fun _ => ⟨rfl, rfl⟩) (fun y => by kernel_rfl) (m_slices_Max_Lint_int N) (fun x => by kernel_rfl)
/-! slices.Index[[]int,int] -/
noncomputable def ct_slices_Index_Lint_int (N : Nat) : List Ctr := []
def i_slices_Index_Lint_int_1 : PS := ⟨[(0, .h (.sl (.i .i64))), (1, .h (.i .i64)), (7, .h (.i .i64)), (8, .h (.i .i64))], [], [(.sl (.i .i64)), (.i .i64), (.i .i64), (.i .i64)]⟩
def o_slices_Index_Lint_int_1 : List (Exit × PS) := [((.exit 0), ⟨[], [], []⟩), (.ret, ⟨[(4, .h (.i .i64))], [], [(.i .i64)]⟩)]
def p_slices_Index_Lint_int_1 : Pl := .z
noncomputable def l_slices_Index_Lint_int_1 (N : Nat) : Nat → (List Int) × Int × Int × Int → Option ((Unit) ⊕ (Int)) := loopF (exC T (ct_slices_Index_Lint_int N) N (codeAt [1, 0, 1, 0, 0] (bodyOf Tryd.f36))) 19 i_slices_Index_Lint_int_1 o_slices_Index_Lint_int_1 p_slices_Index_Lint_int_1
def p_slices_Index_Lint_int : Pl := (.n .z (.n (.n .z (.n (.loop i_slices_Index_Lint_int_1 o_slices_Index_Lint_int_1 p_slices_Index_Lint_int_1) .z)) .z))
def r_slices_Index_Lint_int : PS := ⟨[(4, .h (.i .i64))], [], [(.i .i64)]⟩
noncomputable def m_slices_Index_Lint_int (N : Nat) : (List Int) × Int → Option (Int) := exF T ct_slices_Index_Lint_int N (bodyOf Tryd.f36) 19 p_slices_Index_Lint_int [.h (.sl (.i .i64)), .h (.i .i64)] [] [(.sl (.i .i64)), (.i .i64)] r_slices_Index_Lint_int
noncomputable def c_slices_Index_Lint_int (N : Nat) : Ctr := ⟨36, [.h (.sl (.i .i64)), .h (.i .i64)], [], [(.sl (.i .i64)), (.i .i64)], r_slices_Index_Lint_int.c, m_slices_Index_Lint_int N, fun y => resG T (mkPS 19 r_slices_Index_Lint_int y) Tryd.f36.results.toList, false, true, fun y => keepH' [] (mkPS 19 r_slices_Index_Lint_int y).h⟩
theorem l_slices_Index_Lint_int_1_z (N : Nat) (v : (List Int) × Int × Int × Int) : l_slices_Index_Lint_int_1 N 0 v = none := by kernel_rfl
theorem l_slices_Index_Lint_int_1_s (N m : Nat) (s : (List Int)) (v : Int) (v7 : Int) (v8 : Int) : l_slices_Index_Lint_int_1 N (m + 1) (s, v, v7, v8) = cond (decide (v8 < v7))
   (obind (nthI s v8) fun z1 =>
    cond (decide (v = z1))
     (some (.inr v8))
     ((l_slices_Index_Lint_int_1 N m (s, (v, (v7, (IntKind.wrap .i64 (v8 + (1 : Int)))))))))
   (some (.inl ())) := by kernel_rfl
theorem m_slices_Index_Lint_int_eq (N : Nat) (s : (List Int)) (v : Int) : m_slices_Index_Lint_int (N + 1) (s, v) = obind (l_slices_Index_Lint_int_1 N N (s, (v, ((((List.length s) : Nat) : Int), (0 : Int))))) fun z1 =>
  (match z1 with
  | .inl zy2 => some (-(1 : Int))
  | .inr zy3 => some zy3) := by kernel_rfl
theorem c_slices_Index_Lint_int_ok (N : Nat) : (c_slices_Index_Lint_int N).ok Tryd.prog := exF_ok (T := T) (CT := ct_slices_Index_Lint_int) (N := N) (fun M => ⟨tOk, ctAll_nil, mixed⟩) Tryd.func36 (by kernel_rfl) (by kernel_rfl) p_slices_Index_Lint_int [.h (.sl (.i .i64)), .h (.i .i64)] [] [(.sl (.i .i64)), (.i .i64)] r_slices_Index_Lint_int false true [] (by kernel_rfl) (fun y => by kernel_rfl) (fun _ => ⟨rfl, rfl⟩) (fun y => by kernel_rfl) (m_slices_Index_Lint_int N) (fun x => by kernel_rfl)
/-! archipelago/tower.Head -/
noncomputable def ct_tower_Head (N : Nat) : List Ctr := [c_tower_Right N, c_slices_Max_Lint_int N, c_slices_Index_Lint_int N]
def p_tower_Head : Pl := .z
def r_tower_Head : PS := ⟨[(2, .h (.i .i64))], [], [(.i .i64)]⟩
noncomputable def m_tower_Head (N : Nat) : (List Int) × (List Int) × (List (List Int)) → Option (Int) := exF T ct_tower_Head N (bodyOf Tryd.f18) 12 p_tower_Head [.ag [.h (.sl (.i .i64)), .h (.sl (.i .i64)), .h (.sl (.sl (.i .i64)))]] [] [(.sl (.i .i64)), (.sl (.i .i64)), (.sl (.sl (.i .i64)))] r_tower_Head
noncomputable def c_tower_Head (N : Nat) : Ctr := ⟨18, [.ag [.h (.sl (.i .i64)), .h (.sl (.i .i64)), .h (.sl (.sl (.i .i64)))]], [], [(.sl (.i .i64)), (.sl (.i .i64)), (.sl (.sl (.i .i64)))], r_tower_Head.c, m_tower_Head N, fun y => resG T (mkPS 12 r_tower_Head y) Tryd.f18.results.toList, false, true, fun y => keepH' [] (mkPS 12 r_tower_Head y).h⟩
theorem m_tower_Head_eq (N : Nat) (t : (List Int)) (t2 : (List Int)) (t3 : (List (List Int))) : m_tower_Head (N + 1) (t, t2, t3) = obind (m_tower_Right N (t, (t2, t3))) fun z1 =>
  cond (!z1)
   (some (-(1 : Int)))
   (obind (m_slices_Max_Lint_int N t2) fun z2 =>
    obind (m_slices_Index_Lint_int N (t2, z2)) fun z3 =>
    some z3) := by kernel_rfl
theorem c_tower_Head_ok (N : Nat) : (c_tower_Head N).ok Tryd.prog := exF_ok (T := T) (CT := ct_tower_Head) (N := N) (fun M => ⟨tOk, (ctAll_cons (c_tower_Right_ok M) (ctAll_cons (c_slices_Max_Lint_int_ok M) (ctAll_cons (c_slices_Index_Lint_int_ok M) ctAll_nil))), mixed⟩) Tryd.func18 (by kernel_rfl) (by kernel_rfl) p_tower_Head [.ag [.h (.sl (.i .i64)), .h (.sl (.i .i64)), .h (.sl (.sl (.i .i64)))]] [] [(.sl (.i .i64)), (.sl (.i .i64)), (.sl (.sl (.i .i64)))] r_tower_Head false true [] (by kernel_rfl) (fun y => by kernel_rfl) (fun _ => ⟨rfl, rfl⟩) (fun y => by kernel_rfl) (m_tower_Head N) (fun x => by kernel_rfl)
/-! archipelago/tower.Walk -/
noncomputable def ct_tower_Walk (N : Nat) : List Ctr := [c_tower_Right N, c_slices_Max_Lint_int N]
def i_tower_Walk_1 : PS := ⟨[(1, .h (.i .i64)), (2, .k (.pt 900 0)), (5, .k (.ow 901)), (6, .h (.i .i64))], [(900, .box 27 [.h (.sl (.i .i64)), .h (.sl (.i .i64)), .h (.sl (.sl (.i .i64)))]), (901, .arr 3 (.i .i64) true)], [(.i .i64), (.i .i64), (.sl (.i .i64)), (.sl (.i .i64)), (.sl (.sl (.i .i64))), (.sl (.i .i64))]⟩
def o_tower_Walk_1 : List (Exit × PS) := [((.exit 0), ⟨[(5, .k (.ow 900))], [(900, .arr 3 (.i .i64) true)], [(.sl (.i .i64))]⟩)]
def p_tower_Walk_1 : Pl := .z
noncomputable def l_tower_Walk_1 (N : Nat) : Nat → Int × Int × (List Int) × (List Int) × (List (List Int)) × (List Int) → Option ((List Int)) := loopF (exC T (ct_tower_Walk N) N (codeAt [1, 1, 1, 0, 1, 0, 0] (bodyOf Tryd.f20))) 50 i_tower_Walk_1 o_tower_Walk_1 p_tower_Walk_1
def p_tower_Walk : Pl := (.n .z (.n .z (.n .z (.n (.n .z (.n (.loop i_tower_Walk_1 o_tower_Walk_1 p_tower_Walk_1) .z)) .z))))
def r_tower_Walk : PS := ⟨[(4, .k (.ow 900))], [(900, .arr 3 (.i .i64) true)], [(.sl (.i .i64))]⟩
noncomputable def m_tower_Walk (N : Nat) : (List Int) × (List Int) × (List (List Int)) × Int → Option ((List Int)) := exF T ct_tower_Walk N (bodyOf Tryd.f20) 50 p_tower_Walk [.ag [.h (.sl (.i .i64)), .h (.sl (.i .i64)), .h (.sl (.sl (.i .i64)))], .h (.i .i64)] [] [(.sl (.i .i64)), (.sl (.i .i64)), (.sl (.sl (.i .i64))), (.i .i64)] r_tower_Walk
noncomputable def c_tower_Walk (N : Nat) : Ctr := ⟨20, [.ag [.h (.sl (.i .i64)), .h (.sl (.i .i64)), .h (.sl (.sl (.i .i64)))], .h (.i .i64)], [], [(.sl (.i .i64)), (.sl (.i .i64)), (.sl (.sl (.i .i64))), (.i .i64)], r_tower_Walk.c, m_tower_Walk N, fun y => resG T (mkPS 50 r_tower_Walk y) Tryd.f20.results.toList, true, true, fun y => keepH' [900] (mkPS 50 r_tower_Walk y).h⟩
theorem l_tower_Walk_1_z (N : Nat) (v : Int × Int × (List Int) × (List Int) × (List (List Int)) × (List Int)) : l_tower_Walk_1 N 0 v = none := by kernel_rfl
theorem l_tower_Walk_1_s (N m : Nat) (place : Int) (most : Int) (t : (List Int)) (t2 : (List Int)) (t3 : (List (List Int))) (walk : (List Int)) : l_tower_Walk_1 N (m + 1) (place, most, t, t2, t3, walk) = obind (nthI t2 place) fun z1 =>
  cond (decide (z1 < most))
   (obind (nthI t3 place) fun z2 =>
    obind (nthI z2 (IntKind.wrap .i64 ((((List.length z2) : Nat) : Int) - (1 : Int)))) fun z3 =>
    obind (appI (8 : Nat) walk [z3]) fun z4 =>
    (l_tower_Walk_1 N m (z3, (most, (t, (t2, (t3, z4)))))))
   (some walk) := by kernel_rfl
theorem m_tower_Walk_eq (N : Nat) (t : (List Int)) (t2 : (List Int)) (t3 : (List (List Int))) (place : Int) : m_tower_Walk (N + 1) (t, t2, t3, place) = cond (decide (place < (0 : Int)))
   (some [])
   (cond (decide ((((List.length t) : Nat) : Int) ≤ place))
     (some [])
     (obind (m_tower_Right N (t, (t2, t3))) fun z1 =>
      cond (!z1)
       (some [])
       (obind (m_slices_Max_Lint_int N t2) fun z2 =>
        obind (l_tower_Walk_1 N N (place, (z2, (t, (t2, (t3, [place])))))) fun z3 =>
        some z3))) := by kernel_rfl
theorem c_tower_Walk_ok (N : Nat) : (c_tower_Walk N).ok Tryd.prog := exF_ok (T := T) (CT := ct_tower_Walk) (N := N) (fun M => ⟨tOk, (ctAll_cons (c_tower_Right_ok M) (ctAll_cons (c_slices_Max_Lint_int_ok M) ctAll_nil)), mixed⟩) Tryd.func20 (by kernel_rfl) (by kernel_rfl) p_tower_Walk [.ag [.h (.sl (.i .i64)), .h (.sl (.i .i64)), .h (.sl (.sl (.i .i64)))], .h (.i .i64)] [] [(.sl (.i .i64)), (.sl (.i .i64)), (.sl (.sl (.i .i64))), (.i .i64)] r_tower_Walk true true [900] (by kernel_rfl) (fun y => by kernel_rfl) (fun h => by cases h) (fun y => by kernel_rfl) (m_tower_Walk N) (fun x => by kernel_rfl)
/-! archipelago/tower.Level -/
noncomputable def ct_tower_Level (N : Nat) : List Ctr := [c_tower_Right N]
def i_tower_Level_1 : PS := ⟨[(1, .h (.i .i64)), (5, .k (.ow 900)), (12, .h (.sl (.i .i64))), (13, .h (.i .i64)), (14, .h (.i .i64))], [(900, .arr 3 (.i .i64) true)], [(.i .i64), (.sl (.i .i64)), (.i .i64), (.i .i64), (.sl (.i .i64))]⟩
def o_tower_Level_1 : List (Exit × PS) := [((.exit 0), ⟨[(5, .k (.ow 900))], [(900, .arr 3 (.i .i64) true)], [(.sl (.i .i64))]⟩)]
def p_tower_Level_1 : Pl := .z
noncomputable def l_tower_Level_1 (N : Nat) : Nat → Int × (List Int) × Int × Int × (List Int) → Option ((List Int)) := loopF (exC T (ct_tower_Level N) N (codeAt [1, 1, 1, 0, 1, 0, 0] (bodyOf Tryd.f22))) 28 i_tower_Level_1 o_tower_Level_1 p_tower_Level_1
def p_tower_Level : Pl := (.n .z (.n .z (.n .z (.n (.n .z (.n (.loop i_tower_Level_1 o_tower_Level_1 p_tower_Level_1) .z)) .z))))
def r_tower_Level : PS := ⟨[(4, .k (.ow 900))], [(900, .arr 3 (.i .i64) true)], [(.sl (.i .i64))]⟩
noncomputable def m_tower_Level (N : Nat) : (List Int) × (List Int) × (List (List Int)) × Int → Option ((List Int)) := exF T ct_tower_Level N (bodyOf Tryd.f22) 28 p_tower_Level [.ag [.h (.sl (.i .i64)), .h (.sl (.i .i64)), .h (.sl (.sl (.i .i64)))], .h (.i .i64)] [] [(.sl (.i .i64)), (.sl (.i .i64)), (.sl (.sl (.i .i64))), (.i .i64)] r_tower_Level
noncomputable def c_tower_Level (N : Nat) : Ctr := ⟨22, [.ag [.h (.sl (.i .i64)), .h (.sl (.i .i64)), .h (.sl (.sl (.i .i64)))], .h (.i .i64)], [], [(.sl (.i .i64)), (.sl (.i .i64)), (.sl (.sl (.i .i64))), (.i .i64)], r_tower_Level.c, m_tower_Level N, fun y => resG T (mkPS 28 r_tower_Level y) Tryd.f22.results.toList, true, true, fun y => keepH' [900] (mkPS 28 r_tower_Level y).h⟩
theorem l_tower_Level_1_z (N : Nat) (v : Int × (List Int) × Int × Int × (List Int)) : l_tower_Level_1 N 0 v = none := by kernel_rfl
theorem l_tower_Level_1_s (N m : Nat) (level : Int) (v12 : (List Int)) (v13 : Int) (v14 : Int) (l : (List Int)) : l_tower_Level_1 N (m + 1) (level, v12, v13, v14, l) = cond (decide (v14 < v13))
   (obind (nthI v12 v14) fun z1 =>
    cond (decide (level < z1))
     (obind (appI (8 : Nat) l [v14]) fun z2 =>
      (l_tower_Level_1 N m (level, (v12, (v13, ((IntKind.wrap .i64 (v14 + (1 : Int))), z2))))))
     ((l_tower_Level_1 N m (level, (v12, (v13, ((IntKind.wrap .i64 (v14 + (1 : Int))), l)))))))
   (some l) := by kernel_rfl
theorem m_tower_Level_eq (N : Nat) (t : (List Int)) (t2 : (List Int)) (t3 : (List (List Int))) (level : Int) : m_tower_Level (N + 1) (t, t2, t3, level) = obind (m_tower_Right N (t, (t2, t3))) fun z1 =>
  cond (!z1)
   (some [])
   (obind (l_tower_Level_1 N N (level, (t2, ((((List.length t2) : Nat) : Int), ((0 : Int), []))))) fun z2 =>
    some z2) := by kernel_rfl
theorem c_tower_Level_ok (N : Nat) : (c_tower_Level N).ok Tryd.prog := exF_ok (T := T) (CT := ct_tower_Level) (N := N) (fun M => ⟨tOk, (ctAll_cons (c_tower_Right_ok M) ctAll_nil), mixed⟩) Tryd.func22 (by kernel_rfl) (by kernel_rfl) p_tower_Level [.ag [.h (.sl (.i .i64)), .h (.sl (.i .i64)), .h (.sl (.sl (.i .i64)))], .h (.i .i64)] [] [(.sl (.i .i64)), (.sl (.i .i64)), (.sl (.sl (.i .i64))), (.i .i64)] r_tower_Level true true [900] (by kernel_rfl) (fun y => by kernel_rfl) (fun h => by cases h) (fun y => by kernel_rfl) (m_tower_Level N) (fun x => by kernel_rfl)
/-! archipelago/coin.At -/
noncomputable def ct_coin_At (N : Nat) : List Ctr := []
def p_coin_At : Pl := .z
def r_coin_At : PS := ⟨[(4, .h (.i .u32))], [], [(.i .u32)]⟩
noncomputable def m_coin_At (N : Nat) : (List Int) × Int → Option (Int) := exF T ct_coin_At N (bodyOf Tryd.f33) 19 p_coin_At [.h (.sl (.i .u32)), .h (.i .i64)] [] [(.sl (.i .u32)), (.i .i64)] r_coin_At
noncomputable def c_coin_At (N : Nat) : Ctr := ⟨33, [.h (.sl (.i .u32)), .h (.i .i64)], [], [(.sl (.i .u32)), (.i .i64)], r_coin_At.c, m_coin_At N, fun y => resG T (mkPS 19 r_coin_At y) Tryd.f33.results.toList, false, true, fun y => keepH' [] (mkPS 19 r_coin_At y).h⟩
theorem m_coin_At_eq (N : Nat) (script : (List Int)) (i : Int) : m_coin_At (N + 1) (script, i) = cond (decide (i < (0 : Int)))
   (some (0 : Int))
   (cond (decide ((((List.length script) : Nat) : Int) = (0 : Int)))
     (some (0 : Int))
     (obind (remI i (((List.length script) : Nat) : Int)) fun z1 =>
      obind (nthI script z1) fun z2 =>
      some z2)) := by kernel_rfl
theorem c_coin_At_ok (N : Nat) : (c_coin_At N).ok Tryd.prog := exF_ok (T := T) (CT := ct_coin_At) (N := N) (fun M => ⟨tOk, ctAll_nil, mixed⟩) Tryd.func33 (by kernel_rfl) (by kernel_rfl) p_coin_At [.h (.sl (.i .u32)), .h (.i .i64)] [] [(.sl (.i .u32)), (.i .i64)] r_coin_At false true [] (by kernel_rfl) (fun y => by kernel_rfl) (fun _ => ⟨rfl, rfl⟩) (fun y => by kernel_rfl) (m_coin_At N) (fun x => by kernel_rfl)
/-! math/bits.TrailingZeros32 -/
noncomputable def ct_math_bits_TrailingZeros32 (N : Nat) : List Ctr := []
def p_math_bits_TrailingZeros32 : Pl := .z
def r_math_bits_TrailingZeros32 : PS := ⟨[(2, .h (.i .i64))], [], [(.i .i64)]⟩
noncomputable def m_math_bits_TrailingZeros32 (N : Nat) : Int → Option (Int) := exF T ct_math_bits_TrailingZeros32 N (bodyOf Tryd.f44) 14 p_math_bits_TrailingZeros32 [.h (.i .u32)] [] [(.i .u32)] r_math_bits_TrailingZeros32
noncomputable def c_math_bits_TrailingZeros32 (N : Nat) : Ctr := ⟨44, [.h (.i .u32)], [], [(.i .u32)], r_math_bits_TrailingZeros32.c, m_math_bits_TrailingZeros32 N, fun y => resG T (mkPS 14 r_math_bits_TrailingZeros32 y) Tryd.f44.results.toList, false, true, fun y => keepH' [] (mkPS 14 r_math_bits_TrailingZeros32 y).h⟩
theorem m_math_bits_TrailingZeros32_eq (N : Nat) (x : Int) : m_math_bits_TrailingZeros32 (N + 1) (x) = cond (decide (x = (0 : Int)))
   (some (32 : Int))
   (obind (nthI (List.range (32 : Nat)) (Int.fdiv (IntKind.wrap .u32 ((bitI .and .u32 x (IntKind.wrap .u32 ((0 : Int) - x))) * (125613361 : Int))) ((2 : Int) ^ (min (Int.toNat (27 : Int)) (32 : Nat))))) fun z1 =>
    obind (nthI [(0 : Int), (1 : Int), (28 : Int), (2 : Int), (29 : Int), (14 : Int), (24 : Int), (3 : Int), (30 : Int), (22 : Int), (20 : Int), (15 : Int), (25 : Int), (17 : Int), (4 : Int), (8 : Int), (31 : Int), (27 : Int), (13 : Int), (23 : Int), (21 : Int), (19 : Int), (16 : Int), (7 : Int), (26 : Int), (12 : Int), (18 : Int), (6 : Int), (11 : Int), (5 : Int), (10 : Int), (9 : Int)] (Int.fdiv (IntKind.wrap .u32 ((bitI .and .u32 x (IntKind.wrap .u32 ((0 : Int) - x))) * (125613361 : Int))) ((2 : Int) ^ (min (Int.toNat (27 : Int)) (32 : Nat))))) fun z2 =>
    some (IntKind.wrap .i64 z2)) := by kernel_rfl
theorem c_math_bits_TrailingZeros32_ok (N : Nat) : (c_math_bits_TrailingZeros32 N).ok Tryd.prog := exF_ok (T := T) (CT := ct_math_bits_TrailingZeros32) (N := N) (fun M => ⟨tOk, ctAll_nil, mixed⟩) Tryd.func44 (by kernel_rfl) (by kernel_rfl) p_math_bits_TrailingZeros32 [.h (.i .u32)] [] [(.i .u32)] r_math_bits_TrailingZeros32 false true [] (by kernel_rfl) (fun y => by kernel_rfl) (fun _ => ⟨rfl, rfl⟩) (fun y => by kernel_rfl) (m_math_bits_TrailingZeros32 N) (fun x => by kernel_rfl)
/-! archipelago/coin.Height -/
noncomputable def ct_coin_Height (N : Nat) : List Ctr := [c_math_bits_TrailingZeros32 N]
def p_coin_Height : Pl := .z
def r_coin_Height : PS := ⟨[(2, .h (.i .i64))], [], [(.i .i64)]⟩
noncomputable def m_coin_Height (N : Nat) : Int → Option (Int) := exF T ct_coin_Height N (bodyOf Tryd.f32) 7 p_coin_Height [.h (.i .u32)] [] [(.i .u32)] r_coin_Height
noncomputable def c_coin_Height (N : Nat) : Ctr := ⟨32, [.h (.i .u32)], [], [(.i .u32)], r_coin_Height.c, m_coin_Height N, fun y => resG T (mkPS 7 r_coin_Height y) Tryd.f32.results.toList, false, true, fun y => keepH' [] (mkPS 7 r_coin_Height y).h⟩
theorem m_coin_Height_eq (N : Nat) (word : Int) : m_coin_Height (N + 1) (word) = obind (m_math_bits_TrailingZeros32 N word) fun z1 =>
  some (if ((8 : Int) < (IntKind.wrap .i64 (z1 + (1 : Int)))) then (8 : Int) else (IntKind.wrap .i64 (z1 + (1 : Int)))) := by kernel_rfl
theorem c_coin_Height_ok (N : Nat) : (c_coin_Height N).ok Tryd.prog := exF_ok (T := T) (CT := ct_coin_Height) (N := N) (fun M => ⟨tOk, (ctAll_cons (c_math_bits_TrailingZeros32_ok M) ctAll_nil), mixed⟩) Tryd.func32 (by kernel_rfl) (by kernel_rfl) p_coin_Height [.h (.i .u32)] [] [(.i .u32)] r_coin_Height false true [] (by kernel_rfl) (fun y => by kernel_rfl) (fun _ => ⟨rfl, rfl⟩) (fun y => by kernel_rfl) (m_coin_Height N) (fun x => by kernel_rfl)
/-! archipelago/tower.Heights -/
noncomputable def ct_tower_Heights (N : Nat) : List Ctr := [c_coin_At N, c_coin_Height N]
def i_tower_Heights_1 : PS := ⟨[(1, .h (.sl (.i .u32))), (5, .k (.ow 900)), (8, .h (.sl (.i .i64))), (9, .h (.i .i64)), (10, .h (.i .i64))], [(900, .arr 3 (.i .i64) true)], [(.sl (.i .u32)), (.sl (.i .i64)), (.i .i64), (.i .i64), (.sl (.i .i64))]⟩
def o_tower_Heights_1 : List (Exit × PS) := [((.exit 0), ⟨[(5, .k (.ow 900))], [(900, .arr 3 (.i .i64) true)], [(.sl (.i .i64))]⟩)]
def p_tower_Heights_1 : Pl := .z
noncomputable def l_tower_Heights_1 (N : Nat) : Nat → (List Int) × (List Int) × Int × Int × (List Int) → Option ((List Int)) := loopF (exC T (ct_tower_Heights N) N (codeAt [1, 1, 0, 1, 0, 0] (bodyOf Tryd.f13))) 28 i_tower_Heights_1 o_tower_Heights_1 p_tower_Heights_1
def p_tower_Heights : Pl := (.n .z (.n .z (.n (.n .z (.n (.loop i_tower_Heights_1 o_tower_Heights_1 p_tower_Heights_1) .z)) .z)))
def r_tower_Heights : PS := ⟨[(4, .k (.ow 900))], [(900, .arr 3 (.i .i64) true)], [(.sl (.i .i64))]⟩
noncomputable def m_tower_Heights (N : Nat) : (List Int) × (List Int) → Option ((List Int)) := exF T ct_tower_Heights N (bodyOf Tryd.f13) 28 p_tower_Heights [.h (.sl (.i .i64)), .h (.sl (.i .u32))] [] [(.sl (.i .i64)), (.sl (.i .u32))] r_tower_Heights
noncomputable def c_tower_Heights (N : Nat) : Ctr := ⟨13, [.h (.sl (.i .i64)), .h (.sl (.i .u32))], [], [(.sl (.i .i64)), (.sl (.i .u32))], r_tower_Heights.c, m_tower_Heights N, fun y => resG T (mkPS 28 r_tower_Heights y) Tryd.f13.results.toList, true, true, fun y => keepH' [900] (mkPS 28 r_tower_Heights y).h⟩
theorem l_tower_Heights_1_z (N : Nat) (v : (List Int) × (List Int) × Int × Int × (List Int)) : l_tower_Heights_1 N 0 v = none := by kernel_rfl
theorem l_tower_Heights_1_s (N m : Nat) (script : (List Int)) (v8 : (List Int)) (v9 : Int) (v10 : Int) (l : (List Int)) : l_tower_Heights_1 N (m + 1) (script, v8, v9, v10, l) = cond (decide (v10 < v9))
   (obind (nthI v8 v10) fun z1 =>
    cond (decide (z1 < (0 : Int)))
     (obind (appI (8 : Nat) l [(1 : Int)]) fun z2 =>
      (l_tower_Heights_1 N m (script, (v8, (v9, ((IntKind.wrap .i64 (v10 + (1 : Int))), z2))))))
     (obind (m_coin_At N (script, z1)) fun z3 =>
      obind (m_coin_Height N z3) fun z4 =>
      obind (appI (8 : Nat) l [z4]) fun z5 =>
      (l_tower_Heights_1 N m (script, (v8, (v9, ((IntKind.wrap .i64 (v10 + (1 : Int))), z5)))))))
   (some l) := by kernel_rfl
theorem m_tower_Heights_eq (N : Nat) (tokens : (List Int)) (script : (List Int)) : m_tower_Heights (N + 1) (tokens, script) = obind (l_tower_Heights_1 N N (script, (tokens, ((((List.length tokens) : Nat) : Int), ((0 : Int), []))))) fun z1 =>
  some z1 := by kernel_rfl
theorem c_tower_Heights_ok (N : Nat) : (c_tower_Heights N).ok Tryd.prog := exF_ok (T := T) (CT := ct_tower_Heights) (N := N) (fun M => ⟨tOk, (ctAll_cons (c_coin_At_ok M) (ctAll_cons (c_coin_Height_ok M) ctAll_nil)), mixed⟩) Tryd.func13 (by kernel_rfl) (by kernel_rfl) p_tower_Heights [.h (.sl (.i .i64)), .h (.sl (.i .u32))] [] [(.sl (.i .i64)), (.sl (.i .u32))] r_tower_Heights true true [900] (by kernel_rfl) (fun y => by kernel_rfl) (fun h => by cases h) (fun y => by kernel_rfl) (m_tower_Heights N) (fun x => by kernel_rfl)
/-! archipelago/archipelagolaw14.alive -/
noncomputable def ct_law14_alive (N : Nat) : List Ctr := [c_tower_Build N, c_ref01_Ints N, c_tower_Head N, c_tower_Walk N, c_tower_Level N, c_tower_Heights N, c_tower_Right N, c_tower_Same N]
def p_law14_alive : Pl := .z
def r_law14_alive : PS := ⟨[(0, .h .b)], [], [.b]⟩
noncomputable def m_law14_alive (N : Nat) : Unit → Option (Bool) := exF T ct_law14_alive N (bodyOf Tryd.f8) 92 p_law14_alive [] [] [] r_law14_alive
noncomputable def c_law14_alive (N : Nat) : Ctr := ⟨8, [], [], [], r_law14_alive.c, m_law14_alive N, fun y => resG T (mkPS 92 r_law14_alive y) Tryd.f8.results.toList, false, true, fun y => keepH' [] (mkPS 92 r_law14_alive y).h⟩
theorem m_law14_alive_eq (N : Nat) : m_law14_alive (N + 1) () = obind (m_tower_Build N ([(7 : Int), (3 : Int), (9 : Int), (4 : Int)], [(1 : Int), (3 : Int), (2 : Int), (1 : Int)])) fun z1 =>
  obind (m_tower_Build N ([(7 : Int), (7 : Int)], [(1 : Int), (1 : Int)])) fun z2 =>
  cond (decide (z1.1 = (0 : Int)))
   (cond (decide (z2.1 = (1 : Int)))
     (cond (decide ((((List.length z1.2.2.2) : Nat) : Int) = (4 : Int)))
       (obind (nthI z1.2.2.2 (0 : Int)) fun z3 =>
        obind (m_ref01_Ints N (z3, [(1 : Int)])) fun z4 =>
        cond z4
         (obind (nthI z1.2.2.2 (1 : Int)) fun z5 =>
          obind (m_ref01_Ints N (z5, [(2 : Int), (2 : Int), (1 : Int)])) fun z6 =>
          cond z6
           (obind (nthI z1.2.2.2 (2 : Int)) fun z7 =>
            obind (m_ref01_Ints N (z7, [(3 : Int), (1 : Int)])) fun z8 =>
            cond z8
             (obind (m_tower_Head N (z1.2.1, (z1.2.2.1, z1.2.2.2))) fun z9 =>
              cond (decide (z9 = (1 : Int)))
               (obind (m_tower_Walk N (z1.2.1, (z1.2.2.1, (z1.2.2.2, (2 : Int))))) fun z10 =>
                obind (m_ref01_Ints N (z10, [(2 : Int), (1 : Int)])) fun z11 =>
                cond z11
                 (obind (m_tower_Walk N (z1.2.1, (z1.2.2.1, (z1.2.2.2, (3 : Int))))) fun z12 =>
                  obind (m_ref01_Ints N (z12, [(3 : Int), (0 : Int), (1 : Int)])) fun z13 =>
                  cond z13
                   (obind (m_tower_Level N (z1.2.1, (z1.2.2.1, (z1.2.2.2, (1 : Int))))) fun z14 =>
                    obind (m_ref01_Ints N (z14, [(1 : Int), (2 : Int)])) fun z15 =>
                    cond z15
                     (obind (m_tower_Heights N ([(0 : Int), (1 : Int), (-(1 : Int))], [(4 : Int), (1 : Int)])) fun z16 =>
                      obind (m_ref01_Ints N (z16, [(3 : Int), (1 : Int), (1 : Int)])) fun z17 =>
                      cond z17
                       (obind (m_tower_Right N (z1.2.1, (z1.2.2.1, z1.2.2.2))) fun z18 =>
                        cond z18
                         (obind (m_tower_Same N (z1.2.1, (z1.2.2.1, (z1.2.2.2, (z1.2.1, (z1.2.2.1, z1.2.2.2)))))) fun z19 =>
                          some z19)
                         (some false))
                       (some false))
                     (some false))
                   (some false))
                 (some false))
               (some false))
             (some false))
           (some false))
         (some false))
       (some false))
     (some false))
   (some false) := by kernel_rfl
theorem c_law14_alive_ok (N : Nat) : (c_law14_alive N).ok Tryd.prog := exF_ok (T := T) (CT := ct_law14_alive) (N := N) (fun M => ⟨tOk, (ctAll_cons (c_tower_Build_ok M) (ctAll_cons (c_ref01_Ints_ok M) (ctAll_cons (c_tower_Head_ok M) (ctAll_cons (c_tower_Walk_ok M) (ctAll_cons (c_tower_Level_ok M) (ctAll_cons (c_tower_Heights_ok M) (ctAll_cons (c_tower_Right_ok M) (ctAll_cons (c_tower_Same_ok M) ctAll_nil)))))))), mixed⟩) Tryd.func8 (by kernel_rfl) (by kernel_rfl) p_law14_alive [] [] [] r_law14_alive false true [] (by kernel_rfl) (fun y => by kernel_rfl) (fun _ => ⟨rfl, rfl⟩) (fun y => by kernel_rfl) (m_law14_alive N) (fun x => by kernel_rfl)
/-! archipelago/archipelagoref13.Place -/
noncomputable def ct_ref13_Place (N : Nat) : List Ctr := []
def i_ref13_Place_1 : PS := ⟨[(0, .h (.sl (.i .i64))), (1, .h (.i .i64)), (5, .h (.i .i64))], [], [(.sl (.i .i64)), (.i .i64), (.i .i64)]⟩
def o_ref13_Place_1 : List (Exit × PS) := [((.exit 0), ⟨[], [], []⟩), (.ret, ⟨[(4, .h (.i .i64))], [], [(.i .i64)]⟩)]
def p_ref13_Place_1 : Pl := .z
noncomputable def l_ref13_Place_1 (N : Nat) : Nat → (List Int) × Int × Int → Option ((Unit) ⊕ (Int)) := loopF (exC T (ct_ref13_Place N) N (codeAt [1, 0, 1, 0, 0] (bodyOf Tryd.f43))) 19 i_ref13_Place_1 o_ref13_Place_1 p_ref13_Place_1
def p_ref13_Place : Pl := (.n .z (.n (.n .z (.n (.loop i_ref13_Place_1 o_ref13_Place_1 p_ref13_Place_1) .z)) .z))
def r_ref13_Place : PS := ⟨[(4, .h (.i .i64))], [], [(.i .i64)]⟩
noncomputable def m_ref13_Place (N : Nat) : (List Int) × Int → Option (Int) := exF T ct_ref13_Place N (bodyOf Tryd.f43) 19 p_ref13_Place [.h (.sl (.i .i64)), .h (.i .i64)] [] [(.sl (.i .i64)), (.i .i64)] r_ref13_Place
noncomputable def c_ref13_Place (N : Nat) : Ctr := ⟨43, [.h (.sl (.i .i64)), .h (.i .i64)], [], [(.sl (.i .i64)), (.i .i64)], r_ref13_Place.c, m_ref13_Place N, fun y => resG T (mkPS 19 r_ref13_Place y) Tryd.f43.results.toList, false, true, fun y => keepH' [] (mkPS 19 r_ref13_Place y).h⟩
theorem l_ref13_Place_1_z (N : Nat) (v : (List Int) × Int × Int) : l_ref13_Place_1 N 0 v = none := by kernel_rfl
theorem l_ref13_Place_1_s (N m : Nat) (l : (List Int)) (token : Int) (i : Int) : l_ref13_Place_1 N (m + 1) (l, token, i) = cond (decide (i < (((List.length l) : Nat) : Int)))
   (obind (nthI l i) fun z1 =>
    cond (decide (z1 = token))
     (some (.inr i))
     ((l_ref13_Place_1 N m (l, (token, (IntKind.wrap .i64 (i + (1 : Int))))))))
   (some (.inl ())) := by kernel_rfl
theorem m_ref13_Place_eq (N : Nat) (l : (List Int)) (token : Int) : m_ref13_Place (N + 1) (l, token) = obind (l_ref13_Place_1 N N (l, (token, (0 : Int)))) fun z1 =>
  (match z1 with
  | .inl zy2 => some (-(1 : Int))
  | .inr zy3 => some zy3) := by kernel_rfl
theorem c_ref13_Place_ok (N : Nat) : (c_ref13_Place N).ok Tryd.prog := exF_ok (T := T) (CT := ct_ref13_Place) (N := N) (fun M => ⟨tOk, ctAll_nil, mixed⟩) Tryd.func43 (by kernel_rfl) (by kernel_rfl) p_ref13_Place [.h (.sl (.i .i64)), .h (.i .i64)] [] [(.sl (.i .i64)), (.i .i64)] r_ref13_Place false true [] (by kernel_rfl) (fun y => by kernel_rfl) (fun _ => ⟨rfl, rfl⟩) (fun y => by kernel_rfl) (m_ref13_Place N) (fun x => by kernel_rfl)
/-! archipelago/archipelagoref13.Right -/
noncomputable def ct_ref13_Right (N : Nat) : List Ctr := [c_ref13_Place N]
def i_ref13_Right_1 : PS := ⟨[(0, .h (.sl (.i .i64))), (3, .h (.i .i64))], [], [(.sl (.i .i64)), (.i .i64)]⟩
def o_ref13_Right_1 : List (Exit × PS) := [((.exit 0), ⟨[], [], []⟩), (.ret, ⟨[(2, .h .b)], [], [.b]⟩)]
def p_ref13_Right_1 : Pl := .z
noncomputable def l_ref13_Right_1 (N : Nat) : Nat → (List Int) × Int → Option ((Unit) ⊕ (Bool)) := loopF (exC T (ct_ref13_Right N) N (codeAt [1, 1, 0, 1, 0, 0] (bodyOf Tryd.f30))) 36 i_ref13_Right_1 o_ref13_Right_1 p_ref13_Right_1
def p_ref13_Right : Pl := (.n .z (.n .z (.n (.n .z (.n (.loop i_ref13_Right_1 o_ref13_Right_1 p_ref13_Right_1) .z)) .z)))
def r_ref13_Right : PS := ⟨[(2, .h .b)], [], [.b]⟩
noncomputable def m_ref13_Right (N : Nat) : (List Int) → Option (Bool) := exF T ct_ref13_Right N (bodyOf Tryd.f30) 36 p_ref13_Right [.h (.sl (.i .i64))] [] [(.sl (.i .i64))] r_ref13_Right
noncomputable def c_ref13_Right (N : Nat) : Ctr := ⟨30, [.h (.sl (.i .i64))], [], [(.sl (.i .i64))], r_ref13_Right.c, m_ref13_Right N, fun y => resG T (mkPS 36 r_ref13_Right y) Tryd.f30.results.toList, false, true, fun y => keepH' [] (mkPS 36 r_ref13_Right y).h⟩
theorem l_ref13_Right_1_z (N : Nat) (v : (List Int) × Int) : l_ref13_Right_1 N 0 v = none := by kernel_rfl
theorem l_ref13_Right_1_s (N m : Nat) (l : (List Int)) (i : Int) : l_ref13_Right_1 N (m + 1) (l, i) = cond (decide (i < (((List.length l) : Nat) : Int)))
   (obind (nthI l i) fun z1 =>
    cond (decide (z1 < (0 : Int)))
     (some (.inr false))
     (obind (nthI l i) fun z2 =>
      cond (decide ((10000 : Int) < z2))
       (some (.inr false))
       (obind (subI l (0 : Int) i) fun z3 =>
        obind (nthI l i) fun z4 =>
        obind (m_ref13_Place N (z3, z4)) fun z5 =>
        cond (decide ((0 : Int) ≤ z5))
         (some (.inr false))
         ((l_ref13_Right_1 N m (l, (IntKind.wrap .i64 (i + (1 : Int)))))))))
   (some (.inl ())) := by kernel_rfl
theorem m_ref13_Right_eq (N : Nat) (l : (List Int)) : m_ref13_Right (N + 1) (l) = cond (decide ((1000 : Int) < (((List.length l) : Nat) : Int)))
   (some false)
   (obind (l_ref13_Right_1 N N (l, (0 : Int))) fun z1 =>
    (match z1 with
    | .inl zy2 => some true
    | .inr zy3 => some zy3)) := by kernel_rfl
theorem c_ref13_Right_ok (N : Nat) : (c_ref13_Right N).ok Tryd.prog := exF_ok (T := T) (CT := ct_ref13_Right) (N := N) (fun M => ⟨tOk, (ctAll_cons (c_ref13_Place_ok M) ctAll_nil), mixed⟩) Tryd.func30 (by kernel_rfl) (by kernel_rfl) p_ref13_Right [.h (.sl (.i .i64))] [] [(.sl (.i .i64))] r_ref13_Right false true [] (by kernel_rfl) (fun y => by kernel_rfl) (fun _ => ⟨rfl, rfl⟩) (fun y => by kernel_rfl) (m_ref13_Right N) (fun x => by kernel_rfl)
/-! archipelago/archipelagoref14.Build -/
noncomputable def ct_ref14_Build (N : Nat) : List Ctr := [c_ref13_Right N]
def i_ref14_Build_4 : PS := ⟨[(1, .h (.sl (.i .i64))), (4, .k (.pt 900 0)), (6, .h (.i .i64)), (8, .k (.pt 901 0)), (9, .h (.i .i64)), (10, .k (.ow 904)), (11, .h (.i .i64)), (12, .h (.i .i64))], [(900, .box 27 [.k .nil, .k .nil, .k .nil]), (901, .box 27 [.k (.ow 902), .k (.ow 903), .k (.ow 905)]), (904, .arr 3 (.i .i64) true), (902, .arr 3 (.i .i64) true), (903, .arr 3 (.i .i64) true), (905, .arr 22 (.sl (.i .i64)) true)], [(.sl (.i .i64)), (.i .i64), (.i .i64), (.i .i64), (.i .i64), (.sl (.i .i64)), (.sl (.i .i64)), (.sl (.i .i64)), (.sl (.sl (.i .i64)))]⟩
def o_ref14_Build_4 : List (Exit × PS) := [((.exit 6), ⟨[(1, .h (.sl (.i .i64))), (4, .k (.pt 900 0)), (6, .h (.i .i64)), (8, .k (.pt 901 0)), (9, .h (.i .i64)), (10, .k (.ow 902)), (11, .h (.i .i64)), (12, .h (.i .i64))], [(900, .box 27 [.k .nil, .k .nil, .k .nil]), (901, .box 27 [.k (.ow 903), .k (.ow 904), .k (.ow 905)]), (902, .arr 3 (.i .i64) true), (903, .arr 3 (.i .i64) true), (904, .arr 3 (.i .i64) true), (905, .arr 22 (.sl (.i .i64)) true)], [(.sl (.i .i64)), (.i .i64), (.i .i64), (.i .i64), (.i .i64), (.sl (.i .i64)), (.sl (.i .i64)), (.sl (.i .i64)), (.sl (.sl (.i .i64)))]⟩)]
def p_ref14_Build_4 : Pl := .z
noncomputable def l_ref14_Build_4 (N : Nat) : Nat → (List Int) × Int × Int × Int × Int × (List Int) × (List Int) × (List Int) × (List (List Int)) → Option ((List Int) × Int × Int × Int × Int × (List Int) × (List Int) × (List Int) × (List (List Int))) := loopF (exC T (ct_ref14_Build N) N (codeAt [1, 1, 1, 1, 1, 0, 1, 0, 0, 1, 0, 0, 1, 0, 1, 0, 0, 1, 0, 0, 1, 0, 0, 0] (bodyOf Tryd.f10))) 94 i_ref14_Build_4 o_ref14_Build_4 p_ref14_Build_4
def i_ref14_Build_3 : PS := ⟨[(1, .h (.sl (.i .i64))), (4, .k (.pt 900 0)), (6, .h (.i .i64)), (8, .k (.pt 901 0)), (9, .h (.i .i64)), (10, .k (.ow 904)), (11, .h (.i .i64))], [(900, .box 27 [.k .nil, .k .nil, .k .nil]), (901, .box 27 [.k (.ow 902), .k (.ow 903), .k (.ow 905)]), (904, .arr 3 (.i .i64) true), (902, .arr 3 (.i .i64) true), (903, .arr 3 (.i .i64) true), (905, .arr 22 (.sl (.i .i64)) true)], [(.sl (.i .i64)), (.i .i64), (.i .i64), (.i .i64), (.sl (.i .i64)), (.sl (.i .i64)), (.sl (.i .i64)), (.sl (.sl (.i .i64)))]⟩
def o_ref14_Build_3 : List (Exit × PS) := [((.exit 4), ⟨[(1, .h (.sl (.i .i64))), (4, .k (.pt 900 0)), (6, .h (.i .i64)), (8, .k (.pt 901 0)), (9, .h (.i .i64)), (10, .k (.ow 902))], [(900, .box 27 [.k .nil, .k .nil, .k .nil]), (901, .box 27 [.k (.ow 903), .k (.ow 904), .k (.ow 905)]), (902, .arr 3 (.i .i64) true), (903, .arr 3 (.i .i64) true), (904, .arr 3 (.i .i64) true), (905, .arr 22 (.sl (.i .i64)) true)], [(.sl (.i .i64)), (.i .i64), (.i .i64), (.sl (.i .i64)), (.sl (.i .i64)), (.sl (.i .i64)), (.sl (.sl (.i .i64)))]⟩)]
def p_ref14_Build_3 : Pl := (.n .z (.n (.n (.n .z (.n (.n (.loop i_ref14_Build_4 o_ref14_Build_4 p_ref14_Build_4) .z) .z)) .z) .z))
noncomputable def l_ref14_Build_3 (N : Nat) : Nat → (List Int) × Int × Int × Int × (List Int) × (List Int) × (List Int) × (List (List Int)) → Option ((List Int) × Int × Int × (List Int) × (List Int) × (List Int) × (List (List Int))) := loopF (exC T (ct_ref14_Build N) N (codeAt [1, 1, 1, 1, 1, 0, 1, 0, 0, 1, 0, 0, 1, 0, 1, 0, 0] (bodyOf Tryd.f10))) 94 i_ref14_Build_3 o_ref14_Build_3 p_ref14_Build_3
def i_ref14_Build_2 : PS := ⟨[(1, .h (.sl (.i .i64))), (4, .k (.pt 900 0)), (6, .h (.i .i64)), (8, .k (.pt 901 0)), (9, .h (.i .i64))], [(900, .box 27 [.k .nil, .k .nil, .k .nil]), (901, .box 27 [.k (.ow 902), .k (.ow 903), .k (.ow 904)]), (902, .arr 3 (.i .i64) true), (903, .arr 3 (.i .i64) true), (904, .arr 22 (.sl (.i .i64)) true)], [(.sl (.i .i64)), (.i .i64), (.i .i64), (.sl (.i .i64)), (.sl (.i .i64)), (.sl (.sl (.i .i64)))]⟩
def o_ref14_Build_2 : List (Exit × PS) := [((.exit 2), ⟨[(4, .k (.pt 900 0)), (8, .k (.pt 901 0))], [(900, .box 27 [.k .nil, .k .nil, .k .nil]), (901, .box 27 [.k (.ow 902), .k (.ow 903), .k (.ow 904)]), (902, .arr 3 (.i .i64) true), (903, .arr 3 (.i .i64) true), (904, .arr 22 (.sl (.i .i64)) true)], [(.sl (.i .i64)), (.sl (.i .i64)), (.sl (.sl (.i .i64)))]⟩)]
def p_ref14_Build_2 : Pl := (.n .z (.n (.n (.n .z (.n (.n .z (.n (.loop i_ref14_Build_3 o_ref14_Build_3 p_ref14_Build_3) .z)) .z)) .z) .z))
noncomputable def l_ref14_Build_2 (N : Nat) : Nat → (List Int) × Int × Int × (List Int) × (List Int) × (List (List Int)) → Option ((List Int) × (List Int) × (List (List Int))) := loopF (exC T (ct_ref14_Build N) N (codeAt [1, 1, 1, 1, 1, 0, 1, 0, 0] (bodyOf Tryd.f10))) 94 i_ref14_Build_2 o_ref14_Build_2 p_ref14_Build_2
def i_ref14_Build_1 : PS := ⟨[(0, .h (.sl (.i .i64))), (1, .h (.sl (.i .i64))), (4, .k (.pt 900 0)), (6, .h (.i .i64)), (7, .h (.i .i64))], [(900, .box 27 [.k .nil, .k .nil, .k .nil])], [(.sl (.i .i64)), (.sl (.i .i64)), (.i .i64), (.i .i64)]⟩
def o_ref14_Build_1 : List (Exit × PS) := [((.exit 0), ⟨[(0, .h (.sl (.i .i64))), (1, .h (.sl (.i .i64))), (4, .k (.pt 900 0)), (6, .h (.i .i64))], [(900, .box 27 [.k .nil, .k .nil, .k .nil])], [(.sl (.i .i64)), (.sl (.i .i64)), (.i .i64)]⟩), (.ret, ⟨[(4, .k (.pt 900 0)), (5, .h (.i .i64))], [(900, .box 27 [.k .nil, .k .nil, .k .nil])], [(.i .i64)]⟩)]
def p_ref14_Build_1 : Pl := .z
noncomputable def l_ref14_Build_1 (N : Nat) : Nat → (List Int) × (List Int) × Int × Int → Option (((List Int) × (List Int) × Int) ⊕ (Int)) := loopF (exC T (ct_ref14_Build N) N (codeAt [1, 1, 1, 0, 1, 0, 0] (bodyOf Tryd.f10))) 94 i_ref14_Build_1 o_ref14_Build_1 p_ref14_Build_1
def p_ref14_Build : Pl := (.n .z (.n .z (.n .z (.n (.n .z (.n (.loop i_ref14_Build_1 o_ref14_Build_1 p_ref14_Build_1) .z)) (.n .z (.n (.n .z (.n (.loop i_ref14_Build_2 o_ref14_Build_2 p_ref14_Build_2) .z)) .z))))))
def r_ref14_Build : PS := ⟨[(4, .k (.pt 900 0)), (5, .h (.i .i64))], [(900, .box 27 [.h (.sl (.i .i64)), .h (.sl (.i .i64)), .h (.sl (.sl (.i .i64)))])], [(.i .i64), (.sl (.i .i64)), (.sl (.i .i64)), (.sl (.sl (.i .i64)))]⟩
noncomputable def m_ref14_Build (N : Nat) : (List Int) × (List Int) → Option (Int × (List Int) × (List Int) × (List (List Int))) := exF T ct_ref14_Build N (bodyOf Tryd.f10) 94 p_ref14_Build [.h (.sl (.i .i64)), .h (.sl (.i .i64))] [] [(.sl (.i .i64)), (.sl (.i .i64))] r_ref14_Build
noncomputable def c_ref14_Build (N : Nat) : Ctr := ⟨10, [.h (.sl (.i .i64)), .h (.sl (.i .i64))], [], [(.sl (.i .i64)), (.sl (.i .i64))], r_ref14_Build.c, m_ref14_Build N, fun y => resG T (mkPS 94 r_ref14_Build y) Tryd.f10.results.toList, false, false, fun y => keepH' [] (mkPS 94 r_ref14_Build y).h⟩
theorem l_ref14_Build_4_z (N : Nat) (v : (List Int) × Int × Int × Int × Int × (List Int) × (List Int) × (List Int) × (List (List Int))) : l_ref14_Build_4 N 0 v = none := by kernel_rfl
theorem l_ref14_Build_4_s (N m : Nat) (heights : (List Int)) (n : Int) (i : Int) (h : Int) (k : Int) (l : (List Int)) (v902 : (List Int)) (v903 : (List Int)) (v905 : (List (List Int))) : l_ref14_Build_4 N (m + 1) (heights, n, i, h, k, l, v902, v903, v905) = obind (remI (IntKind.wrap .i64 (i + k)) n) fun z1 =>
  obind (nthI heights z1) fun z2 =>
  cond (decide (z2 ≤ h))
   ((l_ref14_Build_4 N m (heights, (n, (i, (h, ((IntKind.wrap .i64 (k + (1 : Int))), (l, (v902, (v903, v905))))))))))
   (some (heights, (n, (i, (h, (k, (l, (v902, (v903, v905))))))))) := by kernel_rfl
theorem l_ref14_Build_3_z (N : Nat) (v : (List Int) × Int × Int × Int × (List Int) × (List Int) × (List Int) × (List (List Int))) : l_ref14_Build_3 N 0 v = none := by kernel_rfl
theorem l_ref14_Build_3_s (N m : Nat) (heights : (List Int)) (n : Int) (i : Int) (h : Int) (l : (List Int)) (v902 : (List Int)) (v903 : (List Int)) (v905 : (List (List Int))) : l_ref14_Build_3 N (m + 1) (heights, n, i, h, l, v902, v903, v905) = obind (nthI heights i) fun z1 =>
  cond (decide (h < z1))
   (obind (l_ref14_Build_4 N N (heights, (n, (i, (h, ((1 : Int), (l, (v902, (v903, v905))))))))) fun z2 =>
    obind (remI (IntKind.wrap .i64 (z2.2.2.1 + z2.2.2.2.2.1)) z2.2.1) fun z3 =>
    obind (appI (8 : Nat) z2.2.2.2.2.2.1 [z3]) fun z4 =>
    (l_ref14_Build_3 N m (z2.1, (z2.2.1, (z2.2.2.1, ((IntKind.wrap .i64 (z2.2.2.2.1 + (1 : Int))), (z4, (z2.2.2.2.2.2.2.1, (z2.2.2.2.2.2.2.2.1, z2.2.2.2.2.2.2.2.2)))))))))
   (some (heights, (n, (i, (l, (v902, (v903, v905))))))) := by kernel_rfl
theorem l_ref14_Build_2_z (N : Nat) (v : (List Int) × Int × Int × (List Int) × (List Int) × (List (List Int))) : l_ref14_Build_2 N 0 v = none := by kernel_rfl
theorem l_ref14_Build_2_s (N m : Nat) (heights : (List Int)) (n : Int) (i : Int) (v902 : (List Int)) (v903 : (List Int)) (v904 : (List (List Int))) : l_ref14_Build_2 N (m + 1) (heights, n, i, v902, v903, v904) = cond (decide (i < n))
   (obind (l_ref14_Build_3 N N (heights, (n, (i, ((0 : Int), ([], (v902, (v903, v904)))))))) fun z1 =>
    obind (appI (24 : Nat) z1.2.2.2.2.2.2 [z1.2.2.2.1]) fun z2 =>
    (l_ref14_Build_2 N m (z1.1, (z1.2.1, ((IntKind.wrap .i64 (z1.2.2.1 + (1 : Int))), (z1.2.2.2.2.1, (z1.2.2.2.2.2.1, z2)))))))
   (some (v902, (v903, v904))) := by kernel_rfl
theorem l_ref14_Build_1_z (N : Nat) (v : (List Int) × (List Int) × Int × Int) : l_ref14_Build_1 N 0 v = none := by kernel_rfl
theorem l_ref14_Build_1_s (N m : Nat) (tokens : (List Int)) (heights : (List Int)) (n : Int) (i : Int) : l_ref14_Build_1 N (m + 1) (tokens, heights, n, i) = cond (decide (i < n))
   (obind (nthI heights i) fun z1 =>
    cond (decide (z1 < (1 : Int)))
     (some (.inr (1 : Int)))
     (obind (nthI heights i) fun z2 =>
      cond (decide ((8 : Int) < z2))
       (some (.inr (1 : Int)))
       ((l_ref14_Build_1 N m (tokens, (heights, (n, (IntKind.wrap .i64 (i + (1 : Int))))))))))
   (some (.inl (tokens, (heights, n)))) := by kernel_rfl
theorem m_ref14_Build_eq (N : Nat) (tokens : (List Int)) (heights : (List Int)) : m_ref14_Build (N + 1) (tokens, heights) = obind (m_ref13_Right N tokens) fun z1 =>
  cond (!z1)
   (some ((1 : Int), ([], ([], []))))
   (cond (decide ((((List.length tokens) : Nat) : Int) = (0 : Int)))
     (some ((1 : Int), ([], ([], []))))
     (cond (!(decide ((((List.length heights) : Nat) : Int) = (((List.length tokens) : Nat) : Int))))
       (some ((1 : Int), ([], ([], []))))
       (obind (l_ref14_Build_1 N N (tokens, (heights, ((((List.length tokens) : Nat) : Int), (0 : Int))))) fun z2 =>
        (match z2 with
        | .inl zy3 => obind (appI (8 : Nat) [] zy3.1) fun z4 =>
          obind (appI (8 : Nat) [] zy3.2.1) fun z5 =>
          obind (l_ref14_Build_2 N N (zy3.2.1, (zy3.2.2, ((0 : Int), (z4, (z5, [])))))) fun z6 =>
          some ((0 : Int), (z6.1, (z6.2.1, z6.2.2)))
        | .inr zy7 => some (zy7, ([], ([], []))))))) := by kernel_rfl
theorem c_ref14_Build_ok (N : Nat) : (c_ref14_Build N).ok Tryd.prog := exF_ok (T := T) (CT := ct_ref14_Build) (N := N) (fun M => ⟨tOk, (ctAll_cons (c_ref13_Right_ok M) ctAll_nil), mixed⟩) Tryd.func10 (by kernel_rfl) (by kernel_rfl) p_ref14_Build [.h (.sl (.i .i64)), .h (.sl (.i .i64))] [] [(.sl (.i .i64)), (.sl (.i .i64))] r_ref14_Build false false [] (by kernel_rfl) (fun y => by kernel_rfl) (fun _ => ⟨rfl, rfl⟩) (fun y => by kernel_rfl) (m_ref14_Build N) (fun x => by kernel_rfl)
/-! archipelago/archipelagoref14.Lists -/
noncomputable def ct_ref14_Lists (N : Nat) : List Ctr := [c_ref01_Ints N]
def i_ref14_Lists_1 : PS := ⟨[(0, .h (.sl (.sl (.i .i64)))), (1, .h (.sl (.sl (.i .i64)))), (5, .h (.i .i64))], [], [(.sl (.sl (.i .i64))), (.sl (.sl (.i .i64))), (.i .i64)]⟩
def o_ref14_Lists_1 : List (Exit × PS) := [((.exit 0), ⟨[], [], []⟩), (.ret, ⟨[(4, .h .b)], [], [.b]⟩)]
def p_ref14_Lists_1 : Pl := .z
noncomputable def l_ref14_Lists_1 (N : Nat) : Nat → (List (List Int)) × (List (List Int)) × Int → Option ((Unit) ⊕ (Bool)) := loopF (exC T (ct_ref14_Lists N) N (codeAt [1, 1, 0, 1, 0, 0] (bodyOf Tryd.f31))) 27 i_ref14_Lists_1 o_ref14_Lists_1 p_ref14_Lists_1
def p_ref14_Lists : Pl := (.n .z (.n .z (.n (.n .z (.n (.loop i_ref14_Lists_1 o_ref14_Lists_1 p_ref14_Lists_1) .z)) .z)))
def r_ref14_Lists : PS := ⟨[(4, .h .b)], [], [.b]⟩
noncomputable def m_ref14_Lists (N : Nat) : (List (List Int)) × (List (List Int)) → Option (Bool) := exF T ct_ref14_Lists N (bodyOf Tryd.f31) 27 p_ref14_Lists [.h (.sl (.sl (.i .i64))), .h (.sl (.sl (.i .i64)))] [] [(.sl (.sl (.i .i64))), (.sl (.sl (.i .i64)))] r_ref14_Lists
noncomputable def c_ref14_Lists (N : Nat) : Ctr := ⟨31, [.h (.sl (.sl (.i .i64))), .h (.sl (.sl (.i .i64)))], [], [(.sl (.sl (.i .i64))), (.sl (.sl (.i .i64)))], r_ref14_Lists.c, m_ref14_Lists N, fun y => resG T (mkPS 27 r_ref14_Lists y) Tryd.f31.results.toList, false, true, fun y => keepH' [] (mkPS 27 r_ref14_Lists y).h⟩
theorem l_ref14_Lists_1_z (N : Nat) (v : (List (List Int)) × (List (List Int)) × Int) : l_ref14_Lists_1 N 0 v = none := by kernel_rfl
theorem l_ref14_Lists_1_s (N m : Nat) (a : (List (List Int))) (b : (List (List Int))) (i : Int) : l_ref14_Lists_1 N (m + 1) (a, b, i) = cond (decide (i < (((List.length a) : Nat) : Int)))
   (obind (nthI a i) fun z1 =>
    obind (nthI b i) fun z2 =>
    obind (m_ref01_Ints N (z1, z2)) fun z3 =>
    cond (!z3)
     (some (.inr false))
     ((l_ref14_Lists_1 N m (a, (b, (IntKind.wrap .i64 (i + (1 : Int))))))))
   (some (.inl ())) := by kernel_rfl
theorem m_ref14_Lists_eq (N : Nat) (a : (List (List Int))) (b : (List (List Int))) : m_ref14_Lists (N + 1) (a, b) = cond (!(decide ((((List.length a) : Nat) : Int) = (((List.length b) : Nat) : Int))))
   (some false)
   (obind (l_ref14_Lists_1 N N (a, (b, (0 : Int)))) fun z1 =>
    (match z1 with
    | .inl zy2 => some true
    | .inr zy3 => some zy3)) := by kernel_rfl
theorem c_ref14_Lists_ok (N : Nat) : (c_ref14_Lists N).ok Tryd.prog := exF_ok (T := T) (CT := ct_ref14_Lists) (N := N) (fun M => ⟨tOk, (ctAll_cons (c_ref01_Ints_ok M) ctAll_nil), mixed⟩) Tryd.func31 (by kernel_rfl) (by kernel_rfl) p_ref14_Lists [.h (.sl (.sl (.i .i64))), .h (.sl (.sl (.i .i64)))] [] [(.sl (.sl (.i .i64))), (.sl (.sl (.i .i64)))] r_ref14_Lists false true [] (by kernel_rfl) (fun y => by kernel_rfl) (fun _ => ⟨rfl, rfl⟩) (fun y => by kernel_rfl) (m_ref14_Lists N) (fun x => by kernel_rfl)
/-! archipelago/archipelagoref14.Same -/
noncomputable def ct_ref14_Same (N : Nat) : List Ctr := [c_ref01_Ints N, c_ref14_Lists N]
def p_ref14_Same : Pl := .z
def r_ref14_Same : PS := ⟨[(4, .h .b)], [], [.b]⟩
noncomputable def m_ref14_Same (N : Nat) : (List Int) × (List Int) × (List (List Int)) × (List Int) × (List Int) × (List (List Int)) → Option (Bool) := exF T ct_ref14_Same N (bodyOf Tryd.f11) 24 p_ref14_Same [.ag [.h (.sl (.i .i64)), .h (.sl (.i .i64)), .h (.sl (.sl (.i .i64)))], .ag [.h (.sl (.i .i64)), .h (.sl (.i .i64)), .h (.sl (.sl (.i .i64)))]] [] [(.sl (.i .i64)), (.sl (.i .i64)), (.sl (.sl (.i .i64))), (.sl (.i .i64)), (.sl (.i .i64)), (.sl (.sl (.i .i64)))] r_ref14_Same
noncomputable def c_ref14_Same (N : Nat) : Ctr := ⟨11, [.ag [.h (.sl (.i .i64)), .h (.sl (.i .i64)), .h (.sl (.sl (.i .i64)))], .ag [.h (.sl (.i .i64)), .h (.sl (.i .i64)), .h (.sl (.sl (.i .i64)))]], [], [(.sl (.i .i64)), (.sl (.i .i64)), (.sl (.sl (.i .i64))), (.sl (.i .i64)), (.sl (.i .i64)), (.sl (.sl (.i .i64)))], r_ref14_Same.c, m_ref14_Same N, fun y => resG T (mkPS 24 r_ref14_Same y) Tryd.f11.results.toList, false, true, fun y => keepH' [] (mkPS 24 r_ref14_Same y).h⟩
theorem m_ref14_Same_eq (N : Nat) (a : (List Int)) (a2 : (List Int)) (a3 : (List (List Int))) (b : (List Int)) (b2 : (List Int)) (b3 : (List (List Int))) : m_ref14_Same (N + 1) (a, a2, a3, b, b2, b3) = obind (m_ref01_Ints N (a, b)) fun z1 =>
  cond z1
   (obind (m_ref01_Ints N (a2, b2)) fun z2 =>
    cond z2
     (obind (m_ref14_Lists N (a3, b3)) fun z3 =>
      some z3)
     (some false))
   (some false) := by kernel_rfl
theorem c_ref14_Same_ok (N : Nat) : (c_ref14_Same N).ok Tryd.prog := exF_ok (T := T) (CT := ct_ref14_Same) (N := N) (fun M => ⟨tOk, (ctAll_cons (c_ref01_Ints_ok M) (ctAll_cons (c_ref14_Lists_ok M) ctAll_nil)), mixed⟩) Tryd.func11 (by kernel_rfl) (by kernel_rfl) p_ref14_Same [.ag [.h (.sl (.i .i64)), .h (.sl (.i .i64)), .h (.sl (.sl (.i .i64)))], .ag [.h (.sl (.i .i64)), .h (.sl (.i .i64)), .h (.sl (.sl (.i .i64)))]] [] [(.sl (.i .i64)), (.sl (.i .i64)), (.sl (.sl (.i .i64))), (.sl (.i .i64)), (.sl (.i .i64)), (.sl (.sl (.i .i64)))] r_ref14_Same false true [] (by kernel_rfl) (fun y => by kernel_rfl) (fun _ => ⟨rfl, rfl⟩) (fun y => by kernel_rfl) (m_ref14_Same N) (fun x => by kernel_rfl)
/-! archipelago/archipelagoref01.At -/
noncomputable def ct_ref01_At (N : Nat) : List Ctr := []
def p_ref01_At : Pl := .z
def r_ref01_At : PS := ⟨[(4, .h (.i .u32))], [], [(.i .u32)]⟩
noncomputable def m_ref01_At (N : Nat) : (List Int) × Int → Option (Int) := exF T ct_ref01_At N (bodyOf Tryd.f35) 19 p_ref01_At [.h (.sl (.i .u32)), .h (.i .i64)] [] [(.sl (.i .u32)), (.i .i64)] r_ref01_At
noncomputable def c_ref01_At (N : Nat) : Ctr := ⟨35, [.h (.sl (.i .u32)), .h (.i .i64)], [], [(.sl (.i .u32)), (.i .i64)], r_ref01_At.c, m_ref01_At N, fun y => resG T (mkPS 19 r_ref01_At y) Tryd.f35.results.toList, false, true, fun y => keepH' [] (mkPS 19 r_ref01_At y).h⟩
theorem m_ref01_At_eq (N : Nat) (script : (List Int)) (i : Int) : m_ref01_At (N + 1) (script, i) = cond (decide (i < (0 : Int)))
   (some (0 : Int))
   (cond (decide ((((List.length script) : Nat) : Int) = (0 : Int)))
     (some (0 : Int))
     (obind (remI i (((List.length script) : Nat) : Int)) fun z1 =>
      obind (nthI script z1) fun z2 =>
      some z2)) := by kernel_rfl
theorem c_ref01_At_ok (N : Nat) : (c_ref01_At N).ok Tryd.prog := exF_ok (T := T) (CT := ct_ref01_At) (N := N) (fun M => ⟨tOk, ctAll_nil, mixed⟩) Tryd.func35 (by kernel_rfl) (by kernel_rfl) p_ref01_At [.h (.sl (.i .u32)), .h (.i .i64)] [] [(.sl (.i .u32)), (.i .i64)] r_ref01_At false true [] (by kernel_rfl) (fun y => by kernel_rfl) (fun _ => ⟨rfl, rfl⟩) (fun y => by kernel_rfl) (m_ref01_At N) (fun x => by kernel_rfl)
/-! archipelago/archipelagoref01.bit -/
noncomputable def ct_ref01_bit (N : Nat) : List Ctr := []
def p_ref01_bit : Pl := .z
def r_ref01_bit : PS := ⟨[(4, .h (.i .u32))], [], [(.i .u32)]⟩
noncomputable def m_ref01_bit (N : Nat) : Int × Int → Option (Int) := exF T ct_ref01_bit N (bodyOf Tryd.f45) 16 p_ref01_bit [.h (.i .u32), .h (.i .i64)] [] [(.i .u32), (.i .i64)] r_ref01_bit
noncomputable def c_ref01_bit (N : Nat) : Ctr := ⟨45, [.h (.i .u32), .h (.i .i64)], [], [(.i .u32), (.i .i64)], r_ref01_bit.c, m_ref01_bit N, fun y => resG T (mkPS 16 r_ref01_bit y) Tryd.f45.results.toList, false, true, fun y => keepH' [] (mkPS 16 r_ref01_bit y).h⟩
theorem m_ref01_bit_eq (N : Nat) (word : Int) (i : Int) : m_ref01_bit (N + 1) (word, i) = cond (decide (i < (0 : Int)))
   (some (0 : Int))
   (cond (decide ((31 : Int) < i))
     (some (0 : Int))
     (obind (shrI .u32 word (IntKind.wrap .u64 i)) fun z1 =>
      some (bitI .and .u32 z1 (1 : Int)))) := by kernel_rfl
theorem c_ref01_bit_ok (N : Nat) : (c_ref01_bit N).ok Tryd.prog := exF_ok (T := T) (CT := ct_ref01_bit) (N := N) (fun M => ⟨tOk, ctAll_nil, mixed⟩) Tryd.func45 (by kernel_rfl) (by kernel_rfl) p_ref01_bit [.h (.i .u32), .h (.i .i64)] [] [(.i .u32), (.i .i64)] r_ref01_bit false true [] (by kernel_rfl) (fun y => by kernel_rfl) (fun _ => ⟨rfl, rfl⟩) (fun y => by kernel_rfl) (m_ref01_bit N) (fun x => by kernel_rfl)
/-! archipelago/archipelagoref01.Height -/
noncomputable def ct_ref01_Height (N : Nat) : List Ctr := [c_ref01_bit N]
def i_ref01_Height_1 : PS := ⟨[(0, .h (.i .u32)), (3, .h (.i .i64))], [], [(.i .u32), (.i .i64)]⟩
def o_ref01_Height_1 : List (Exit × PS) := [((.exit 0), ⟨[(3, .h (.i .i64))], [], [(.i .i64)]⟩)]
def p_ref01_Height_1 : Pl := .z
noncomputable def l_ref01_Height_1 (N : Nat) : Nat → Int × Int → Option (Int) := loopF (exC T (ct_ref01_Height N) N (codeAt [1, 1, 0, 0, 0] (bodyOf Tryd.f34))) 16 i_ref01_Height_1 o_ref01_Height_1 p_ref01_Height_1
def p_ref01_Height : Pl := (.n .z (.n .z (.n (.n (.loop i_ref01_Height_1 o_ref01_Height_1 p_ref01_Height_1) .z) .z)))
def r_ref01_Height : PS := ⟨[(2, .h (.i .i64))], [], [(.i .i64)]⟩
noncomputable def m_ref01_Height (N : Nat) : Int → Option (Int) := exF T ct_ref01_Height N (bodyOf Tryd.f34) 16 p_ref01_Height [.h (.i .u32)] [] [(.i .u32)] r_ref01_Height
noncomputable def c_ref01_Height (N : Nat) : Ctr := ⟨34, [.h (.i .u32)], [], [(.i .u32)], r_ref01_Height.c, m_ref01_Height N, fun y => resG T (mkPS 16 r_ref01_Height y) Tryd.f34.results.toList, false, true, fun y => keepH' [] (mkPS 16 r_ref01_Height y).h⟩
theorem l_ref01_Height_1_z (N : Nat) (v : Int × Int) : l_ref01_Height_1 N 0 v = none := by kernel_rfl
theorem l_ref01_Height_1_s (N m : Nat) (word : Int) (n : Int) : l_ref01_Height_1 N (m + 1) (word, n) = cond (decide (n < (8 : Int)))
   (obind (m_ref01_bit N (word, (IntKind.wrap .i64 (n - (1 : Int))))) fun z1 =>
    cond (decide (z1 = (0 : Int)))
     ((l_ref01_Height_1 N m (word, (IntKind.wrap .i64 (n + (1 : Int))))))
     (some n))
   (some n) := by kernel_rfl
theorem m_ref01_Height_eq (N : Nat) (word : Int) : m_ref01_Height (N + 1) (word) = obind (l_ref01_Height_1 N N (word, (1 : Int))) fun z1 =>
  some z1 := by kernel_rfl
theorem c_ref01_Height_ok (N : Nat) : (c_ref01_Height N).ok Tryd.prog := exF_ok (T := T) (CT := ct_ref01_Height) (N := N) (fun M => ⟨tOk, (ctAll_cons (c_ref01_bit_ok M) ctAll_nil), mixed⟩) Tryd.func34 (by kernel_rfl) (by kernel_rfl) p_ref01_Height [.h (.i .u32)] [] [(.i .u32)] r_ref01_Height false true [] (by kernel_rfl) (fun y => by kernel_rfl) (fun _ => ⟨rfl, rfl⟩) (fun y => by kernel_rfl) (m_ref01_Height N) (fun x => by kernel_rfl)
/-! archipelago/archipelagoref14.Heights -/
noncomputable def ct_ref14_Heights (N : Nat) : List Ctr := [c_ref01_At N, c_ref01_Height N]
def i_ref14_Heights_1 : PS := ⟨[(0, .h (.sl (.i .i64))), (1, .h (.sl (.i .u32))), (5, .k (.ow 900)), (6, .h (.i .i64))], [(900, .arr 3 (.i .i64) true)], [(.sl (.i .i64)), (.sl (.i .u32)), (.i .i64), (.sl (.i .i64))]⟩
def o_ref14_Heights_1 : List (Exit × PS) := [((.exit 0), ⟨[(5, .k (.ow 900))], [(900, .arr 3 (.i .i64) true)], [(.sl (.i .i64))]⟩)]
def p_ref14_Heights_1 : Pl := .z
noncomputable def l_ref14_Heights_1 (N : Nat) : Nat → (List Int) × (List Int) × Int × (List Int) → Option ((List Int)) := loopF (exC T (ct_ref14_Heights N) N (codeAt [1, 1, 0, 1, 0, 0] (bodyOf Tryd.f14))) 31 i_ref14_Heights_1 o_ref14_Heights_1 p_ref14_Heights_1
def p_ref14_Heights : Pl := (.n .z (.n .z (.n (.n .z (.n (.loop i_ref14_Heights_1 o_ref14_Heights_1 p_ref14_Heights_1) .z)) .z)))
def r_ref14_Heights : PS := ⟨[(4, .k (.ow 900))], [(900, .arr 3 (.i .i64) true)], [(.sl (.i .i64))]⟩
noncomputable def m_ref14_Heights (N : Nat) : (List Int) × (List Int) → Option ((List Int)) := exF T ct_ref14_Heights N (bodyOf Tryd.f14) 31 p_ref14_Heights [.h (.sl (.i .i64)), .h (.sl (.i .u32))] [] [(.sl (.i .i64)), (.sl (.i .u32))] r_ref14_Heights
noncomputable def c_ref14_Heights (N : Nat) : Ctr := ⟨14, [.h (.sl (.i .i64)), .h (.sl (.i .u32))], [], [(.sl (.i .i64)), (.sl (.i .u32))], r_ref14_Heights.c, m_ref14_Heights N, fun y => resG T (mkPS 31 r_ref14_Heights y) Tryd.f14.results.toList, true, true, fun y => keepH' [900] (mkPS 31 r_ref14_Heights y).h⟩
theorem l_ref14_Heights_1_z (N : Nat) (v : (List Int) × (List Int) × Int × (List Int)) : l_ref14_Heights_1 N 0 v = none := by kernel_rfl
theorem l_ref14_Heights_1_s (N m : Nat) (tokens : (List Int)) (script : (List Int)) (i : Int) (out : (List Int)) : l_ref14_Heights_1 N (m + 1) (tokens, script, i, out) = cond (decide (i < (((List.length tokens) : Nat) : Int)))
   (obind (nthI tokens i) fun z1 =>
    cond (decide ((0 : Int) ≤ z1))
     (obind (nthI tokens i) fun z2 =>
      obind (m_ref01_At N (script, z2)) fun z3 =>
      obind (m_ref01_Height N z3) fun z4 =>
      obind (appI (8 : Nat) out [z4]) fun z5 =>
      (l_ref14_Heights_1 N m (tokens, (script, ((IntKind.wrap .i64 (i + (1 : Int))), z5)))))
     (obind (appI (8 : Nat) out [(1 : Int)]) fun z6 =>
      (l_ref14_Heights_1 N m (tokens, (script, ((IntKind.wrap .i64 (i + (1 : Int))), z6))))))
   (some out) := by kernel_rfl
theorem m_ref14_Heights_eq (N : Nat) (tokens : (List Int)) (script : (List Int)) : m_ref14_Heights (N + 1) (tokens, script) = obind (l_ref14_Heights_1 N N (tokens, (script, ((0 : Int), [])))) fun z1 =>
  some z1 := by kernel_rfl
theorem c_ref14_Heights_ok (N : Nat) : (c_ref14_Heights N).ok Tryd.prog := exF_ok (T := T) (CT := ct_ref14_Heights) (N := N) (fun M => ⟨tOk, (ctAll_cons (c_ref01_At_ok M) (ctAll_cons (c_ref01_Height_ok M) ctAll_nil)), mixed⟩) Tryd.func14 (by kernel_rfl) (by kernel_rfl) p_ref14_Heights [.h (.sl (.i .i64)), .h (.sl (.i .u32))] [] [(.sl (.i .i64)), (.sl (.i .u32))] r_ref14_Heights true true [900] (by kernel_rfl) (fun y => by kernel_rfl) (fun h => by cases h) (fun y => by kernel_rfl) (m_ref14_Heights N) (fun x => by kernel_rfl)
/-! archipelago/archipelagolaw14.TowerBuilds -/
noncomputable def ct_law14_TowerBuilds (N : Nat) : List Ctr := [c_law14_alive N, c_tower_Build N, c_ref14_Build N, c_ref14_Same N, c_tower_Heights N, c_ref14_Heights N, c_ref01_Ints N]
def p_law14_TowerBuilds : Pl := .z
def r_law14_TowerBuilds : PS := ⟨[(6, .h .b)], [], [.b]⟩
noncomputable def m_law14_TowerBuilds (N : Nat) : (List Int) × (List Int) × (List Int) → Option (Bool) := exF T ct_law14_TowerBuilds N (bodyOf Tryd.f3) 50 p_law14_TowerBuilds [.h (.sl (.i .i64)), .h (.sl (.i .i64)), .h (.sl (.i .u32))] [] [(.sl (.i .i64)), (.sl (.i .i64)), (.sl (.i .u32))] r_law14_TowerBuilds
noncomputable def c_law14_TowerBuilds (N : Nat) : Ctr := ⟨3, [.h (.sl (.i .i64)), .h (.sl (.i .i64)), .h (.sl (.i .u32))], [], [(.sl (.i .i64)), (.sl (.i .i64)), (.sl (.i .u32))], r_law14_TowerBuilds.c, m_law14_TowerBuilds N, fun y => resG T (mkPS 50 r_law14_TowerBuilds y) Tryd.f3.results.toList, false, true, fun y => keepH' [] (mkPS 50 r_law14_TowerBuilds y).h⟩
theorem m_law14_TowerBuilds_eq (N : Nat) (tokens : (List Int)) (heights : (List Int)) (script : (List Int)) : m_law14_TowerBuilds (N + 1) (tokens, heights, script) = obind (m_law14_alive N ()) fun z1 =>
  cond (!z1)
   (some false)
   (cond (decide ((60 : Int) < (((List.length tokens) : Nat) : Int)))
     (some true)
     (cond (decide ((60 : Int) < (((List.length heights) : Nat) : Int)))
       (some true)
       (obind (m_tower_Build N (tokens, heights)) fun z2 =>
        obind (m_ref14_Build N (tokens, heights)) fun z3 =>
        obind (m_ref14_Same N (z2.2.1, (z2.2.2.1, (z2.2.2.2, (z3.2.1, (z3.2.2.1, z3.2.2.2)))))) fun z4 =>
        cond z4
         (cond (decide (z2.1 = z3.1))
           (obind (m_tower_Heights N (tokens, script)) fun z5 =>
            obind (m_ref14_Heights N (tokens, script)) fun z6 =>
            obind (m_ref01_Ints N (z5, z6)) fun z7 =>
            some z7)
           (some false))
         (some false)))) := by kernel_rfl
theorem c_law14_TowerBuilds_ok (N : Nat) : (c_law14_TowerBuilds N).ok Tryd.prog := exF_ok (T := T) (CT := ct_law14_TowerBuilds) (N := N) (fun M => ⟨tOk, (ctAll_cons (c_law14_alive_ok M) (ctAll_cons (c_tower_Build_ok M) (ctAll_cons (c_ref14_Build_ok M) (ctAll_cons (c_ref14_Same_ok M) (ctAll_cons (c_tower_Heights_ok M) (ctAll_cons (c_ref14_Heights_ok M) (ctAll_cons (c_ref01_Ints_ok M) ctAll_nil))))))), mixed⟩) Tryd.func3 (by kernel_rfl) (by kernel_rfl) p_law14_TowerBuilds [.h (.sl (.i .i64)), .h (.sl (.i .i64)), .h (.sl (.i .u32))] [] [(.sl (.i .i64)), (.sl (.i .i64)), (.sl (.i .u32))] r_law14_TowerBuilds false true [] (by kernel_rfl) (fun y => by kernel_rfl) (fun _ => ⟨rfl, rfl⟩) (fun y => by kernel_rfl) (m_law14_TowerBuilds N) (fun x => by kernel_rfl)
/-! archipelago/archipelagoref14.Great -/
noncomputable def ct_ref14_Great (N : Nat) : List Ctr := []
def i_ref14_Great_1 : PS := ⟨[(1, .h (.i .i64)), (2, .k (.pt 900 0)), (5, .h (.i .i64)), (6, .h (.i .i64))], [(900, .box 27 [.h (.sl (.i .i64)), .h (.sl (.i .i64)), .h (.sl (.sl (.i .i64)))])], [(.i .i64), (.i .i64), (.i .i64), (.sl (.i .i64)), (.sl (.i .i64)), (.sl (.sl (.i .i64)))]⟩
def o_ref14_Great_1 : List (Exit × PS) := [((.exit 0), ⟨[(1, .h (.i .i64)), (5, .h (.i .i64))], [], [(.i .i64), (.i .i64)]⟩)]
def p_ref14_Great_1 : Pl := .z
noncomputable def l_ref14_Great_1 (N : Nat) : Nat → Int × Int × Int × (List Int) × (List Int) × (List (List Int)) → Option (Int × Int) := loopF (exC T (ct_ref14_Great N) N (codeAt [1, 1, 0, 1, 0, 0] (bodyOf Tryd.f15))) 41 i_ref14_Great_1 o_ref14_Great_1 p_ref14_Great_1
def p_ref14_Great : Pl := (.n .z (.n .z (.n (.n .z (.n (.loop i_ref14_Great_1 o_ref14_Great_1 p_ref14_Great_1) .z)) .z)))
def r_ref14_Great : PS := ⟨[(4, .h .b)], [], [.b]⟩
noncomputable def m_ref14_Great (N : Nat) : (List Int) × (List Int) × (List (List Int)) × Int → Option (Bool) := exF T ct_ref14_Great N (bodyOf Tryd.f15) 41 p_ref14_Great [.ag [.h (.sl (.i .i64)), .h (.sl (.i .i64)), .h (.sl (.sl (.i .i64)))], .h (.i .i64)] [] [(.sl (.i .i64)), (.sl (.i .i64)), (.sl (.sl (.i .i64))), (.i .i64)] r_ref14_Great
noncomputable def c_ref14_Great (N : Nat) : Ctr := ⟨15, [.ag [.h (.sl (.i .i64)), .h (.sl (.i .i64)), .h (.sl (.sl (.i .i64)))], .h (.i .i64)], [], [(.sl (.i .i64)), (.sl (.i .i64)), (.sl (.sl (.i .i64))), (.i .i64)], r_ref14_Great.c, m_ref14_Great N, fun y => resG T (mkPS 41 r_ref14_Great y) Tryd.f15.results.toList, false, true, fun y => keepH' [] (mkPS 41 r_ref14_Great y).h⟩
theorem l_ref14_Great_1_z (N : Nat) (v : Int × Int × Int × (List Int) × (List Int) × (List (List Int))) : l_ref14_Great_1 N 0 v = none := by kernel_rfl
theorem l_ref14_Great_1_s (N m : Nat) (most : Int) (n : Int) (i : Int) (t : (List Int)) (t2 : (List Int)) (t3 : (List (List Int))) : l_ref14_Great_1 N (m + 1) (most, n, i, t, t2, t3) = cond (decide (i < (((List.length t3) : Nat) : Int)))
   (cond (decide (n ≤ most))
     (obind (nthI t3 i) fun z1 =>
      (l_ref14_Great_1 N m (most, ((IntKind.wrap .i64 (n + (((List.length z1) : Nat) : Int))), ((IntKind.wrap .i64 (i + (1 : Int))), (t, (t2, t3)))))))
     (some (most, n)))
   (some (most, n)) := by kernel_rfl
theorem m_ref14_Great_eq (N : Nat) (t : (List Int)) (t2 : (List Int)) (t3 : (List (List Int))) (most : Int) : m_ref14_Great (N + 1) (t, t2, t3, most) = obind (l_ref14_Great_1 N N (most, ((IntKind.wrap .i64 ((IntKind.wrap .i64 ((((List.length t) : Nat) : Int) + (((List.length t2) : Nat) : Int))) + (((List.length t3) : Nat) : Int))), ((0 : Int), (t, (t2, t3)))))) fun z1 =>
  some (decide (z1.1 < z1.2)) := by kernel_rfl
theorem c_ref14_Great_ok (N : Nat) : (c_ref14_Great N).ok Tryd.prog := exF_ok (T := T) (CT := ct_ref14_Great) (N := N) (fun M => ⟨tOk, ctAll_nil, mixed⟩) Tryd.func15 (by kernel_rfl) (by kernel_rfl) p_ref14_Great [.ag [.h (.sl (.i .i64)), .h (.sl (.i .i64)), .h (.sl (.sl (.i .i64)))], .h (.i .i64)] [] [(.sl (.i .i64)), (.sl (.i .i64)), (.sl (.sl (.i .i64))), (.i .i64)] r_ref14_Great false true [] (by kernel_rfl) (fun y => by kernel_rfl) (fun _ => ⟨rfl, rfl⟩) (fun y => by kernel_rfl) (m_ref14_Great N) (fun x => by kernel_rfl)
/-! archipelago/archipelagoref14.Right -/
noncomputable def ct_ref14_Right (N : Nat) : List Ctr := [c_ref14_Build N, c_ref14_Same N]
def p_ref14_Right : Pl := .z
def r_ref14_Right : PS := ⟨[(2, .h .b)], [], [.b]⟩
noncomputable def m_ref14_Right (N : Nat) : (List Int) × (List Int) × (List (List Int)) → Option (Bool) := exF T ct_ref14_Right N (bodyOf Tryd.f17) 20 p_ref14_Right [.ag [.h (.sl (.i .i64)), .h (.sl (.i .i64)), .h (.sl (.sl (.i .i64)))]] [] [(.sl (.i .i64)), (.sl (.i .i64)), (.sl (.sl (.i .i64)))] r_ref14_Right
noncomputable def c_ref14_Right (N : Nat) : Ctr := ⟨17, [.ag [.h (.sl (.i .i64)), .h (.sl (.i .i64)), .h (.sl (.sl (.i .i64)))]], [], [(.sl (.i .i64)), (.sl (.i .i64)), (.sl (.sl (.i .i64)))], r_ref14_Right.c, m_ref14_Right N, fun y => resG T (mkPS 20 r_ref14_Right y) Tryd.f17.results.toList, false, true, fun y => keepH' [] (mkPS 20 r_ref14_Right y).h⟩
theorem m_ref14_Right_eq (N : Nat) (t : (List Int)) (t2 : (List Int)) (t3 : (List (List Int))) : m_ref14_Right (N + 1) (t, t2, t3) = obind (m_ref14_Build N (t, t2)) fun z1 =>
  cond (decide (z1.1 = (0 : Int)))
   (obind (m_ref14_Same N (z1.2.1, (z1.2.2.1, (z1.2.2.2, (t, (t2, t3)))))) fun z2 =>
    some z2)
   (some false) := by kernel_rfl
theorem c_ref14_Right_ok (N : Nat) : (c_ref14_Right N).ok Tryd.prog := exF_ok (T := T) (CT := ct_ref14_Right) (N := N) (fun M => ⟨tOk, (ctAll_cons (c_ref14_Build_ok M) (ctAll_cons (c_ref14_Same_ok M) ctAll_nil)), mixed⟩) Tryd.func17 (by kernel_rfl) (by kernel_rfl) p_ref14_Right [.ag [.h (.sl (.i .i64)), .h (.sl (.i .i64)), .h (.sl (.sl (.i .i64)))]] [] [(.sl (.i .i64)), (.sl (.i .i64)), (.sl (.sl (.i .i64)))] r_ref14_Right false true [] (by kernel_rfl) (fun y => by kernel_rfl) (fun _ => ⟨rfl, rfl⟩) (fun y => by kernel_rfl) (m_ref14_Right N) (fun x => by kernel_rfl)
/-! archipelago/archipelagoref14.Head -/
noncomputable def ct_ref14_Head (N : Nat) : List Ctr := [c_ref14_Right N]
def i_ref14_Head_1 : PS := ⟨[(1, .k (.pt 900 0)), (3, .h (.i .i64)), (4, .h (.i .i64))], [(900, .box 27 [.h (.sl (.i .i64)), .h (.sl (.i .i64)), .h (.sl (.sl (.i .i64)))])], [(.i .i64), (.i .i64), (.sl (.i .i64)), (.sl (.i .i64)), (.sl (.sl (.i .i64)))]⟩
def o_ref14_Head_1 : List (Exit × PS) := [((.exit 0), ⟨[(3, .h (.i .i64))], [], [(.i .i64)]⟩)]
def p_ref14_Head_1 : Pl := .z
noncomputable def l_ref14_Head_1 (N : Nat) : Nat → Int × Int × (List Int) × (List Int) × (List (List Int)) → Option (Int) := loopF (exC T (ct_ref14_Head N) N (codeAt [1, 1, 1, 0, 1, 0, 0] (bodyOf Tryd.f19))) 28 i_ref14_Head_1 o_ref14_Head_1 p_ref14_Head_1
def p_ref14_Head : Pl := (.n .z (.n .z (.n .z (.n (.n .z (.n (.loop i_ref14_Head_1 o_ref14_Head_1 p_ref14_Head_1) .z)) .z))))
def r_ref14_Head : PS := ⟨[(2, .h (.i .i64))], [], [(.i .i64)]⟩
noncomputable def m_ref14_Head (N : Nat) : (List Int) × (List Int) × (List (List Int)) → Option (Int) := exF T ct_ref14_Head N (bodyOf Tryd.f19) 28 p_ref14_Head [.ag [.h (.sl (.i .i64)), .h (.sl (.i .i64)), .h (.sl (.sl (.i .i64)))]] [] [(.sl (.i .i64)), (.sl (.i .i64)), (.sl (.sl (.i .i64)))] r_ref14_Head
noncomputable def c_ref14_Head (N : Nat) : Ctr := ⟨19, [.ag [.h (.sl (.i .i64)), .h (.sl (.i .i64)), .h (.sl (.sl (.i .i64)))]], [], [(.sl (.i .i64)), (.sl (.i .i64)), (.sl (.sl (.i .i64)))], r_ref14_Head.c, m_ref14_Head N, fun y => resG T (mkPS 28 r_ref14_Head y) Tryd.f19.results.toList, false, true, fun y => keepH' [] (mkPS 28 r_ref14_Head y).h⟩
theorem l_ref14_Head_1_z (N : Nat) (v : Int × Int × (List Int) × (List Int) × (List (List Int))) : l_ref14_Head_1 N 0 v = none := by kernel_rfl
theorem l_ref14_Head_1_s (N m : Nat) (best : Int) (i : Int) (t : (List Int)) (t2 : (List Int)) (t3 : (List (List Int))) : l_ref14_Head_1 N (m + 1) (best, i, t, t2, t3) = cond (decide (i < (((List.length t2) : Nat) : Int)))
   (obind (nthI t2 i) fun z1 =>
    obind (nthI t2 best) fun z2 =>
    cond (decide (z2 < z1))
     ((l_ref14_Head_1 N m (i, ((IntKind.wrap .i64 (i + (1 : Int))), (t, (t2, t3))))))
     ((l_ref14_Head_1 N m (best, ((IntKind.wrap .i64 (i + (1 : Int))), (t, (t2, t3)))))))
   (some best) := by kernel_rfl
theorem m_ref14_Head_eq (N : Nat) (t : (List Int)) (t2 : (List Int)) (t3 : (List (List Int))) : m_ref14_Head (N + 1) (t, t2, t3) = obind (m_ref14_Right N (t, (t2, t3))) fun z1 =>
  cond (!z1)
   (some (-(1 : Int)))
   (obind (l_ref14_Head_1 N N ((0 : Int), ((0 : Int), (t, (t2, t3))))) fun z2 =>
    some z2) := by kernel_rfl
theorem c_ref14_Head_ok (N : Nat) : (c_ref14_Head N).ok Tryd.prog := exF_ok (T := T) (CT := ct_ref14_Head) (N := N) (fun M => ⟨tOk, (ctAll_cons (c_ref14_Right_ok M) ctAll_nil), mixed⟩) Tryd.func19 (by kernel_rfl) (by kernel_rfl) p_ref14_Head [.ag [.h (.sl (.i .i64)), .h (.sl (.i .i64)), .h (.sl (.sl (.i .i64)))]] [] [(.sl (.i .i64)), (.sl (.i .i64)), (.sl (.sl (.i .i64)))] r_ref14_Head false true [] (by kernel_rfl) (fun y => by kernel_rfl) (fun _ => ⟨rfl, rfl⟩) (fun y => by kernel_rfl) (m_ref14_Head N) (fun x => by kernel_rfl)
/-! archipelago/archipelagoref14.Walk -/
noncomputable def ct_ref14_Walk (N : Nat) : List Ctr := [c_ref14_Right N, c_ref14_Head N]
def i_ref14_Walk_1 : PS := ⟨[(2, .k (.pt 900 0)), (5, .h (.i .i64)), (6, .k (.ow 901)), (7, .h (.i .i64))], [(900, .box 27 [.h (.sl (.i .i64)), .h (.sl (.i .i64)), .h (.sl (.sl (.i .i64)))]), (901, .arr 3 (.i .i64) true)], [(.i .i64), (.i .i64), (.sl (.i .i64)), (.sl (.i .i64)), (.sl (.sl (.i .i64))), (.sl (.i .i64))]⟩
def o_ref14_Walk_1 : List (Exit × PS) := [((.exit 0), ⟨[(6, .k (.ow 900))], [(900, .arr 3 (.i .i64) true)], [(.sl (.i .i64))]⟩)]
def p_ref14_Walk_1 : Pl := .z
noncomputable def l_ref14_Walk_1 (N : Nat) : Nat → Int × Int × (List Int) × (List Int) × (List (List Int)) × (List Int) → Option ((List Int)) := loopF (exC T (ct_ref14_Walk N) N (codeAt [1, 1, 1, 1, 0, 1, 0, 0] (bodyOf Tryd.f21))) 56 i_ref14_Walk_1 o_ref14_Walk_1 p_ref14_Walk_1
def p_ref14_Walk : Pl := (.n .z (.n .z (.n .z (.n .z (.n (.n .z (.n (.loop i_ref14_Walk_1 o_ref14_Walk_1 p_ref14_Walk_1) .z)) .z)))))
def r_ref14_Walk : PS := ⟨[(4, .k (.ow 900))], [(900, .arr 3 (.i .i64) true)], [(.sl (.i .i64))]⟩
noncomputable def m_ref14_Walk (N : Nat) : (List Int) × (List Int) × (List (List Int)) × Int → Option ((List Int)) := exF T ct_ref14_Walk N (bodyOf Tryd.f21) 56 p_ref14_Walk [.ag [.h (.sl (.i .i64)), .h (.sl (.i .i64)), .h (.sl (.sl (.i .i64)))], .h (.i .i64)] [] [(.sl (.i .i64)), (.sl (.i .i64)), (.sl (.sl (.i .i64))), (.i .i64)] r_ref14_Walk
noncomputable def c_ref14_Walk (N : Nat) : Ctr := ⟨21, [.ag [.h (.sl (.i .i64)), .h (.sl (.i .i64)), .h (.sl (.sl (.i .i64)))], .h (.i .i64)], [], [(.sl (.i .i64)), (.sl (.i .i64)), (.sl (.sl (.i .i64))), (.i .i64)], r_ref14_Walk.c, m_ref14_Walk N, fun y => resG T (mkPS 56 r_ref14_Walk y) Tryd.f21.results.toList, true, true, fun y => keepH' [900] (mkPS 56 r_ref14_Walk y).h⟩
theorem l_ref14_Walk_1_z (N : Nat) (v : Int × Int × (List Int) × (List Int) × (List (List Int)) × (List Int)) : l_ref14_Walk_1 N 0 v = none := by kernel_rfl
theorem l_ref14_Walk_1_s (N m : Nat) (most : Int) (v7 : Int) (t : (List Int)) (t2 : (List Int)) (t3 : (List (List Int))) (out : (List Int)) : l_ref14_Walk_1 N (m + 1) (most, v7, t, t2, t3, out) = obind (nthI t2 v7) fun z1 =>
  cond (decide (z1 < most))
   (obind (nthI t3 v7) fun z2 =>
    obind (nthI t2 v7) fun z3 =>
    obind (nthI z2 (IntKind.wrap .i64 (z3 - (1 : Int)))) fun z4 =>
    obind (appI (8 : Nat) out [z4]) fun z5 =>
    (l_ref14_Walk_1 N m (most, (z4, (t, (t2, (t3, z5)))))))
   (some out) := by kernel_rfl
theorem m_ref14_Walk_eq (N : Nat) (t : (List Int)) (t2 : (List Int)) (t3 : (List (List Int))) (place : Int) : m_ref14_Walk (N + 1) (t, t2, t3, place) = obind (m_ref14_Right N (t, (t2, t3))) fun z1 =>
  cond (!z1)
   (some [])
   (cond (decide (place < (0 : Int)))
     (some [])
     (cond (decide ((((List.length t) : Nat) : Int) ≤ place))
       (some [])
       (obind (m_ref14_Head N (t, (t2, t3))) fun z2 =>
        obind (nthI t2 z2) fun z3 =>
        obind (l_ref14_Walk_1 N N (z3, (place, (t, (t2, (t3, [place])))))) fun z4 =>
        some z4))) := by kernel_rfl
theorem c_ref14_Walk_ok (N : Nat) : (c_ref14_Walk N).ok Tryd.prog := exF_ok (T := T) (CT := ct_ref14_Walk) (N := N) (fun M => ⟨tOk, (ctAll_cons (c_ref14_Right_ok M) (ctAll_cons (c_ref14_Head_ok M) ctAll_nil)), mixed⟩) Tryd.func21 (by kernel_rfl) (by kernel_rfl) p_ref14_Walk [.ag [.h (.sl (.i .i64)), .h (.sl (.i .i64)), .h (.sl (.sl (.i .i64)))], .h (.i .i64)] [] [(.sl (.i .i64)), (.sl (.i .i64)), (.sl (.sl (.i .i64))), (.i .i64)] r_ref14_Walk true true [900] (by kernel_rfl) (fun y => by kernel_rfl) (fun h => by cases h) (fun y => by kernel_rfl) (m_ref14_Walk N) (fun x => by kernel_rfl)
/-! archipelago/archipelagoref14.Level -/
noncomputable def ct_ref14_Level (N : Nat) : List Ctr := [c_ref14_Right N]
def i_ref14_Level_1 : PS := ⟨[(1, .h (.i .i64)), (2, .k (.pt 900 0)), (5, .k (.ow 901)), (6, .h (.i .i64))], [(900, .box 27 [.h (.sl (.i .i64)), .h (.sl (.i .i64)), .h (.sl (.sl (.i .i64)))]), (901, .arr 3 (.i .i64) true)], [(.i .i64), (.i .i64), (.sl (.i .i64)), (.sl (.i .i64)), (.sl (.sl (.i .i64))), (.sl (.i .i64))]⟩
def o_ref14_Level_1 : List (Exit × PS) := [((.exit 0), ⟨[(5, .k (.ow 900))], [(900, .arr 3 (.i .i64) true)], [(.sl (.i .i64))]⟩)]
def p_ref14_Level_1 : Pl := .z
noncomputable def l_ref14_Level_1 (N : Nat) : Nat → Int × Int × (List Int) × (List Int) × (List (List Int)) × (List Int) → Option ((List Int)) := loopF (exC T (ct_ref14_Level N) N (codeAt [1, 1, 1, 0, 1, 0, 0] (bodyOf Tryd.f23))) 29 i_ref14_Level_1 o_ref14_Level_1 p_ref14_Level_1
def p_ref14_Level : Pl := (.n .z (.n .z (.n .z (.n (.n .z (.n (.loop i_ref14_Level_1 o_ref14_Level_1 p_ref14_Level_1) .z)) .z))))
def r_ref14_Level : PS := ⟨[(4, .k (.ow 900))], [(900, .arr 3 (.i .i64) true)], [(.sl (.i .i64))]⟩
noncomputable def m_ref14_Level (N : Nat) : (List Int) × (List Int) × (List (List Int)) × Int → Option ((List Int)) := exF T ct_ref14_Level N (bodyOf Tryd.f23) 29 p_ref14_Level [.ag [.h (.sl (.i .i64)), .h (.sl (.i .i64)), .h (.sl (.sl (.i .i64)))], .h (.i .i64)] [] [(.sl (.i .i64)), (.sl (.i .i64)), (.sl (.sl (.i .i64))), (.i .i64)] r_ref14_Level
noncomputable def c_ref14_Level (N : Nat) : Ctr := ⟨23, [.ag [.h (.sl (.i .i64)), .h (.sl (.i .i64)), .h (.sl (.sl (.i .i64)))], .h (.i .i64)], [], [(.sl (.i .i64)), (.sl (.i .i64)), (.sl (.sl (.i .i64))), (.i .i64)], r_ref14_Level.c, m_ref14_Level N, fun y => resG T (mkPS 29 r_ref14_Level y) Tryd.f23.results.toList, true, true, fun y => keepH' [900] (mkPS 29 r_ref14_Level y).h⟩
theorem l_ref14_Level_1_z (N : Nat) (v : Int × Int × (List Int) × (List Int) × (List (List Int)) × (List Int)) : l_ref14_Level_1 N 0 v = none := by kernel_rfl
theorem l_ref14_Level_1_s (N m : Nat) (level : Int) (i : Int) (t : (List Int)) (t2 : (List Int)) (t3 : (List (List Int))) (out : (List Int)) : l_ref14_Level_1 N (m + 1) (level, i, t, t2, t3, out) = cond (decide (i < (((List.length t2) : Nat) : Int)))
   (obind (nthI t2 i) fun z1 =>
    cond (decide (level < z1))
     (obind (appI (8 : Nat) out [i]) fun z2 =>
      (l_ref14_Level_1 N m (level, ((IntKind.wrap .i64 (i + (1 : Int))), (t, (t2, (t3, z2)))))))
     ((l_ref14_Level_1 N m (level, ((IntKind.wrap .i64 (i + (1 : Int))), (t, (t2, (t3, out))))))))
   (some out) := by kernel_rfl
theorem m_ref14_Level_eq (N : Nat) (t : (List Int)) (t2 : (List Int)) (t3 : (List (List Int))) (level : Int) : m_ref14_Level (N + 1) (t, t2, t3, level) = obind (m_ref14_Right N (t, (t2, t3))) fun z1 =>
  cond (!z1)
   (some [])
   (obind (l_ref14_Level_1 N N (level, ((0 : Int), (t, (t2, (t3, [])))))) fun z2 =>
    some z2) := by kernel_rfl
theorem c_ref14_Level_ok (N : Nat) : (c_ref14_Level N).ok Tryd.prog := exF_ok (T := T) (CT := ct_ref14_Level) (N := N) (fun M => ⟨tOk, (ctAll_cons (c_ref14_Right_ok M) ctAll_nil), mixed⟩) Tryd.func23 (by kernel_rfl) (by kernel_rfl) p_ref14_Level [.ag [.h (.sl (.i .i64)), .h (.sl (.i .i64)), .h (.sl (.sl (.i .i64)))], .h (.i .i64)] [] [(.sl (.i .i64)), (.sl (.i .i64)), (.sl (.sl (.i .i64))), (.i .i64)] r_ref14_Level true true [900] (by kernel_rfl) (fun y => by kernel_rfl) (fun h => by cases h) (fun y => by kernel_rfl) (m_ref14_Level N) (fun x => by kernel_rfl)
/-! archipelago/archipelagolaw14.TowerAnswers -/
noncomputable def ct_law14_TowerAnswers (N : Nat) : List Ctr := [c_law14_alive N, c_ref14_Great N, c_tower_Right N, c_ref14_Right N, c_tower_Head N, c_ref14_Head N, c_tower_Walk N, c_ref14_Walk N, c_ref01_Ints N, c_tower_Level N, c_ref14_Level N, c_tower_Same N, c_ref14_Same N]
def p_law14_TowerAnswers : Pl := .z
def r_law14_TowerAnswers : PS := ⟨[(6, .h .b)], [], [.b]⟩
noncomputable def m_law14_TowerAnswers (N : Nat) : (List Int) × (List Int) × (List (List Int)) × (List Int) × (List Int) × (List (List Int)) × Int → Option (Bool) := exF T ct_law14_TowerAnswers N (bodyOf Tryd.f4) 59 p_law14_TowerAnswers [.ag [.h (.sl (.i .i64)), .h (.sl (.i .i64)), .h (.sl (.sl (.i .i64)))], .ag [.h (.sl (.i .i64)), .h (.sl (.i .i64)), .h (.sl (.sl (.i .i64)))], .h (.i .i64)] [] [(.sl (.i .i64)), (.sl (.i .i64)), (.sl (.sl (.i .i64))), (.sl (.i .i64)), (.sl (.i .i64)), (.sl (.sl (.i .i64))), (.i .i64)] r_law14_TowerAnswers
noncomputable def c_law14_TowerAnswers (N : Nat) : Ctr := ⟨4, [.ag [.h (.sl (.i .i64)), .h (.sl (.i .i64)), .h (.sl (.sl (.i .i64)))], .ag [.h (.sl (.i .i64)), .h (.sl (.i .i64)), .h (.sl (.sl (.i .i64)))], .h (.i .i64)], [], [(.sl (.i .i64)), (.sl (.i .i64)), (.sl (.sl (.i .i64))), (.sl (.i .i64)), (.sl (.i .i64)), (.sl (.sl (.i .i64))), (.i .i64)], r_law14_TowerAnswers.c, m_law14_TowerAnswers N, fun y => resG T (mkPS 59 r_law14_TowerAnswers y) Tryd.f4.results.toList, false, true, fun y => keepH' [] (mkPS 59 r_law14_TowerAnswers y).h⟩
theorem m_law14_TowerAnswers_eq (N : Nat) (t : (List Int)) (t2 : (List Int)) (t3 : (List (List Int))) (u : (List Int)) (u2 : (List Int)) (u3 : (List (List Int))) (n : Int) : m_law14_TowerAnswers (N + 1) (t, t2, t3, u, u2, u3, n) = obind (m_law14_alive N ()) fun z1 =>
  cond (!z1)
   (some false)
   (obind (m_ref14_Great N (t, (t2, (t3, (300 : Int))))) fun z2 =>
    cond z2
     (some true)
     (obind (m_ref14_Great N (u, (u2, (u3, (300 : Int))))) fun z3 =>
      cond z3
       (some true)
       (obind (m_tower_Right N (t, (t2, t3))) fun z4 =>
        obind (m_ref14_Right N (t, (t2, t3))) fun z5 =>
        cond (z4 == z5)
         (obind (m_tower_Head N (t, (t2, t3))) fun z6 =>
          obind (m_ref14_Head N (t, (t2, t3))) fun z7 =>
          cond (decide (z6 = z7))
           (obind (m_tower_Walk N (t, (t2, (t3, n)))) fun z8 =>
            obind (m_ref14_Walk N (t, (t2, (t3, n)))) fun z9 =>
            obind (m_ref01_Ints N (z8, z9)) fun z10 =>
            cond z10
             (obind (m_tower_Level N (t, (t2, (t3, n)))) fun z11 =>
              obind (m_ref14_Level N (t, (t2, (t3, n)))) fun z12 =>
              obind (m_ref01_Ints N (z11, z12)) fun z13 =>
              cond z13
               (obind (m_tower_Same N (t, (t2, (t3, (u, (u2, u3)))))) fun z14 =>
                obind (m_ref14_Same N (t, (t2, (t3, (u, (u2, u3)))))) fun z15 =>
                cond (z14 == z15)
                 (obind (m_tower_Same N (t, (t2, (t3, (t, (t2, t3)))))) fun z16 =>
                  some z16)
                 (some false))
               (some false))
             (some false))
           (some false))
         (some false)))) := by kernel_rfl
theorem c_law14_TowerAnswers_ok (N : Nat) : (c_law14_TowerAnswers N).ok Tryd.prog := exF_ok (T := T) (CT := ct_law14_TowerAnswers) (N := N) (fun M => ⟨tOk, (ctAll_cons (c_law14_alive_ok M) (ctAll_cons (c_ref14_Great_ok M) (ctAll_cons (c_tower_Right_ok M) (ctAll_cons (c_ref14_Right_ok M) (ctAll_cons (c_tower_Head_ok M) (ctAll_cons (c_ref14_Head_ok M) (ctAll_cons (c_tower_Walk_ok M) (ctAll_cons (c_ref14_Walk_ok M) (ctAll_cons (c_ref01_Ints_ok M) (ctAll_cons (c_tower_Level_ok M) (ctAll_cons (c_ref14_Level_ok M) (ctAll_cons (c_tower_Same_ok M) (ctAll_cons (c_ref14_Same_ok M) ctAll_nil))))))))))))), mixed⟩) Tryd.func4 (by kernel_rfl) (by kernel_rfl) p_law14_TowerAnswers [.ag [.h (.sl (.i .i64)), .h (.sl (.i .i64)), .h (.sl (.sl (.i .i64)))], .ag [.h (.sl (.i .i64)), .h (.sl (.i .i64)), .h (.sl (.sl (.i .i64)))], .h (.i .i64)] [] [(.sl (.i .i64)), (.sl (.i .i64)), (.sl (.sl (.i .i64))), (.sl (.i .i64)), (.sl (.i .i64)), (.sl (.sl (.i .i64))), (.i .i64)] r_law14_TowerAnswers false true [] (by kernel_rfl) (fun y => by kernel_rfl) (fun _ => ⟨rfl, rfl⟩) (fun y => by kernel_rfl) (m_law14_TowerAnswers N) (fun x => by kernel_rfl)
/-! archipelago/archipelagolaw14.TowerRound -/
noncomputable def ct_law14_TowerRound (N : Nat) : List Ctr := [c_law14_alive N, c_tower_Build N, c_tower_Level N]
def i_law14_TowerRound_1 : PS := ⟨[(7, .k (.pt 900 0)), (9, .h (.i .i64)), (10, .k (.ow 901)), (11, .h (.i .i64)), (12, .h (.i .i64))], [(900, .box 27 [.h (.sl (.i .i64)), .h (.sl (.i .i64)), .h (.sl (.sl (.i .i64)))]), (901, .arr 3 (.i .i64) true)], [(.i .i64), (.i .i64), (.i .i64), (.sl (.i .i64)), (.sl (.i .i64)), (.sl (.sl (.i .i64))), (.sl (.i .i64))]⟩
def o_law14_TowerRound_1 : List (Exit × PS) := [((.exit 0), ⟨[(10, .k (.ow 900)), (11, .h (.i .i64))], [(900, .arr 3 (.i .i64) true)], [(.i .i64), (.sl (.i .i64))]⟩), (.ret, ⟨[(6, .h .b)], [], [.b]⟩)]
def p_law14_TowerRound_1 : Pl := .z
noncomputable def l_law14_TowerRound_1 (N : Nat) : Nat → Int × Int × Int × (List Int) × (List Int) × (List (List Int)) × (List Int) → Option ((Int × (List Int)) ⊕ (Bool)) := loopF (exC T (ct_law14_TowerRound N) N (codeAt [1, 1, 1, 1, 1, 1, 1, 1, 1, 0, 1, 0, 0] (bodyOf Tryd.f5))) 89 i_law14_TowerRound_1 o_law14_TowerRound_1 p_law14_TowerRound_1
def p_law14_TowerRound : Pl := (.n .z (.n .z (.n .z (.n .z (.n .z (.n .z (.n .z (.n .z (.n .z (.n (.n .z (.n (.loop i_law14_TowerRound_1 o_law14_TowerRound_1 p_law14_TowerRound_1) .z)) .z))))))))))
def r_law14_TowerRound : PS := ⟨[(6, .h .b)], [], [.b]⟩
noncomputable def m_law14_TowerRound (N : Nat) : (List Int) × (List Int) × Int → Option (Bool) := exF T ct_law14_TowerRound N (bodyOf Tryd.f5) 89 p_law14_TowerRound [.h (.sl (.i .i64)), .h (.sl (.i .i64)), .h (.i .u8)] [] [(.sl (.i .i64)), (.sl (.i .i64)), (.i .u8)] r_law14_TowerRound
noncomputable def c_law14_TowerRound (N : Nat) : Ctr := ⟨5, [.h (.sl (.i .i64)), .h (.sl (.i .i64)), .h (.i .u8)], [], [(.sl (.i .i64)), (.sl (.i .i64)), (.i .u8)], r_law14_TowerRound.c, m_law14_TowerRound N, fun y => resG T (mkPS 89 r_law14_TowerRound y) Tryd.f5.results.toList, false, true, fun y => keepH' [] (mkPS 89 r_law14_TowerRound y).h⟩
theorem l_law14_TowerRound_1_z (N : Nat) (v : Int × Int × Int × (List Int) × (List Int) × (List (List Int)) × (List Int)) : l_law14_TowerRound_1 N 0 v = none := by kernel_rfl
theorem l_law14_TowerRound_1_s (N m : Nat) (h : Int) (v11 : Int) (i : Int) (t : (List Int)) (t2 : (List Int)) (t3 : (List (List Int))) (l : (List Int)) : l_law14_TowerRound_1 N (m + 1) (h, v11, i, t, t2, t3, l) = cond (decide (i < (((List.length l) : Nat) : Int)))
   (obind (nthI l i) fun z1 =>
    obind (nthI l i) fun z2 =>
    cond (!(decide (v11 = z2)))
     (some (.inr false))
     (cond (decide ((((List.length t3) : Nat) : Int) ≤ v11))
       (some (.inr false))
       (obind (nthI t3 v11) fun z3 =>
        cond (decide ((((List.length z3) : Nat) : Int) ≤ h))
         (some (.inr false))
         (obind (nthI t3 v11) fun z4 =>
          obind (nthI z4 h) fun z5 =>
          (l_law14_TowerRound_1 N m (h, (z5, ((IntKind.wrap .i64 (i + (1 : Int))), (t, (t2, (t3, l)))))))))))
   (some (.inl (v11, l))) := by kernel_rfl
theorem m_law14_TowerRound_eq (N : Nat) (tokens : (List Int)) (heights : (List Int)) (level : Int) : m_law14_TowerRound (N + 1) (tokens, heights, level) = obind (m_law14_alive N ()) fun z1 =>
  cond (!z1)
   (some false)
   (cond (decide ((60 : Int) < (((List.length tokens) : Nat) : Int)))
     (some true)
     (cond (decide ((60 : Int) < (((List.length heights) : Nat) : Int)))
       (some true)
       (obind (m_tower_Build N (tokens, heights)) fun z2 =>
        cond (!(decide (z2.1 = (0 : Int))))
         (some (decide ((((List.length z2.2.2.2) : Nat) : Int) = (0 : Int))))
         (obind (m_tower_Level N (z2.2.1, (z2.2.2.1, (z2.2.2.2, (Int.tmod (IntKind.wrap .i64 level) (8 : Int)))))) fun z3 =>
          cond (decide ((((List.length z3) : Nat) : Int) = (0 : Int)))
           (some true)
           (obind (nthI z3 (0 : Int)) fun z4 =>
            obind (nthI z3 (0 : Int)) fun z5 =>
            obind (l_law14_TowerRound_1 N N ((Int.tmod (IntKind.wrap .i64 level) (8 : Int)), (z5, ((0 : Int), (z2.2.1, (z2.2.2.1, (z2.2.2.2, z3))))))) fun z6 =>
            (match z6 with
            | .inl zy7 => obind (nthI zy7.2 (0 : Int)) fun z8 =>
              obind (nthI zy7.2 (0 : Int)) fun z9 =>
              some (decide (zy7.1 = z9))
            | .inr zy10 => some zy10)))))) := by kernel_rfl
theorem c_law14_TowerRound_ok (N : Nat) : (c_law14_TowerRound N).ok Tryd.prog := exF_ok (T := T) (CT := ct_law14_TowerRound) (N := N) (fun M => ⟨tOk, (ctAll_cons (c_law14_alive_ok M) (ctAll_cons (c_tower_Build_ok M) (ctAll_cons (c_tower_Level_ok M) ctAll_nil))), mixed⟩) Tryd.func5 (by kernel_rfl) (by kernel_rfl) p_law14_TowerRound [.h (.sl (.i .i64)), .h (.sl (.i .i64)), .h (.i .u8)] [] [(.sl (.i .i64)), (.sl (.i .i64)), (.i .u8)] r_law14_TowerRound false true [] (by kernel_rfl) (fun y => by kernel_rfl) (fun _ => ⟨rfl, rfl⟩) (fun y => by kernel_rfl) (m_law14_TowerRound N) (fun x => by kernel_rfl)
/-! archipelago/archipelagolaw14.TowerWalks -/
noncomputable def ct_law14_TowerWalks (N : Nat) : List Ctr := [c_law14_alive N, c_tower_Build N, c_tower_Head N, c_tower_Walk N]
def i_law14_TowerWalks_2 : PS := ⟨[(0, .h (.sl (.i .i64))), (1, .h (.sl (.i .i64))), (10, .k (.ow 900)), (11, .h (.i .i64)), (13, .h (.i .i64))], [(900, .arr 3 (.i .i64) true)], [(.sl (.i .i64)), (.sl (.i .i64)), (.i .i64), (.i .i64), (.sl (.i .i64))]⟩
def o_law14_TowerWalks_2 : List (Exit × PS) := [((.exit 2), ⟨[(0, .h (.sl (.i .i64))), (1, .h (.sl (.i .i64))), (10, .k (.ow 900)), (11, .h (.i .i64))], [(900, .arr 3 (.i .i64) true)], [(.sl (.i .i64)), (.sl (.i .i64)), (.i .i64), (.sl (.i .i64))]⟩), (.ret, ⟨[(6, .h .b)], [], [.b]⟩)]
def p_law14_TowerWalks_2 : Pl := .z
noncomputable def l_law14_TowerWalks_2 (N : Nat) : Nat → (List Int) × (List Int) × Int × Int × (List Int) → Option (((List Int) × (List Int) × Int × (List Int)) ⊕ (Bool)) := loopF (exC T (ct_law14_TowerWalks N) N (codeAt [1, 1, 1, 1, 1, 1, 1, 1, 1, 1, 0, 1, 0, 0] (bodyOf Tryd.f6))) 176 i_law14_TowerWalks_2 o_law14_TowerWalks_2 p_law14_TowerWalks_2
def i_law14_TowerWalks_1 : PS := ⟨[(0, .h (.sl (.i .i64))), (1, .h (.sl (.i .i64))), (10, .k (.ow 900)), (11, .h (.i .i64)), (12, .h (.i .i64))], [(900, .arr 3 (.i .i64) true)], [(.sl (.i .i64)), (.sl (.i .i64)), (.i .i64), (.i .i64), (.sl (.i .i64))]⟩
def o_law14_TowerWalks_1 : List (Exit × PS) := [((.exit 0), ⟨[(0, .h (.sl (.i .i64))), (1, .h (.sl (.i .i64))), (10, .k (.ow 900)), (11, .h (.i .i64))], [(900, .arr 3 (.i .i64) true)], [(.sl (.i .i64)), (.sl (.i .i64)), (.i .i64), (.sl (.i .i64))]⟩), (.ret, ⟨[(6, .h .b)], [], [.b]⟩)]
def p_law14_TowerWalks_1 : Pl := .z
noncomputable def l_law14_TowerWalks_1 (N : Nat) : Nat → (List Int) × (List Int) × Int × Int × (List Int) → Option (((List Int) × (List Int) × Int × (List Int)) ⊕ (Bool)) := loopF (exC T (ct_law14_TowerWalks N) N (codeAt [1, 1, 1, 1, 1, 1, 1, 1, 1, 0, 1, 0, 0] (bodyOf Tryd.f6))) 176 i_law14_TowerWalks_1 o_law14_TowerWalks_1 p_law14_TowerWalks_1
def p_law14_TowerWalks : Pl := (.n .z (.n .z (.n .z (.n .z (.n .z (.n .z (.n .z (.n .z (.n .z (.n (.n .z (.n (.loop i_law14_TowerWalks_1 o_law14_TowerWalks_1 p_law14_TowerWalks_1) .z)) (.n (.n .z (.n (.loop i_law14_TowerWalks_2 o_law14_TowerWalks_2 p_law14_TowerWalks_2) .z)) .z)))))))))))
def r_law14_TowerWalks : PS := ⟨[(6, .h .b)], [], [.b]⟩
noncomputable def m_law14_TowerWalks (N : Nat) : (List Int) × (List Int) × Int → Option (Bool) := exF T ct_law14_TowerWalks N (bodyOf Tryd.f6) 176 p_law14_TowerWalks [.h (.sl (.i .i64)), .h (.sl (.i .i64)), .h (.i .u8)] [] [(.sl (.i .i64)), (.sl (.i .i64)), (.i .u8)] r_law14_TowerWalks
noncomputable def c_law14_TowerWalks (N : Nat) : Ctr := ⟨6, [.h (.sl (.i .i64)), .h (.sl (.i .i64)), .h (.i .u8)], [], [(.sl (.i .i64)), (.sl (.i .i64)), (.i .u8)], r_law14_TowerWalks.c, m_law14_TowerWalks N, fun y => resG T (mkPS 176 r_law14_TowerWalks y) Tryd.f6.results.toList, false, true, fun y => keepH' [] (mkPS 176 r_law14_TowerWalks y).h⟩
theorem l_law14_TowerWalks_2_z (N : Nat) (v : (List Int) × (List Int) × Int × Int × (List Int)) : l_law14_TowerWalks_2 N 0 v = none := by kernel_rfl
theorem l_law14_TowerWalks_2_s (N m : Nat) (tokens : (List Int)) (heights : (List Int)) (head : Int) (i : Int) (w : (List Int)) : l_law14_TowerWalks_2 N (m + 1) (tokens, heights, head, i, w) = cond (decide (i < (((List.length w) : Nat) : Int)))
   (obind (nthI w i) fun z1 =>
    obind (nthI w i) fun z2 =>
    cond (decide (z2 < (0 : Int)))
     (some (.inr false))
     (obind (nthI w i) fun z3 =>
      obind (nthI w i) fun z4 =>
      cond (decide ((((List.length heights) : Nat) : Int) ≤ z4))
       (some (.inr false))
       (obind (nthI w i) fun z5 =>
        obind (nthI w i) fun z6 =>
        obind (nthI heights z6) fun z7 =>
        obind (nthI w (IntKind.wrap .i64 (i - (1 : Int)))) fun z8 =>
        obind (nthI w (IntKind.wrap .i64 (i - (1 : Int)))) fun z9 =>
        obind (nthI heights z9) fun z10 =>
        cond (decide (z7 < z10))
         (some (.inr false))
         (obind (nthI w (IntKind.wrap .i64 (i - (1 : Int)))) fun z11 =>
          obind (nthI w (IntKind.wrap .i64 (i - (1 : Int)))) fun z12 =>
          obind (nthI heights z12) fun z13 =>
          obind (nthI heights head) fun z14 =>
          cond (decide (z13 = z14))
           (some (.inr false))
           ((l_law14_TowerWalks_2 N m (tokens, (heights, (head, ((IntKind.wrap .i64 (i + (1 : Int))), w))))))))))
   (some (.inl (tokens, (heights, (head, w))))) := by kernel_rfl
theorem l_law14_TowerWalks_1_z (N : Nat) (v : (List Int) × (List Int) × Int × Int × (List Int)) : l_law14_TowerWalks_1 N 0 v = none := by kernel_rfl
theorem l_law14_TowerWalks_1_s (N m : Nat) (tokens : (List Int)) (heights : (List Int)) (head : Int) (i : Int) (w : (List Int)) : l_law14_TowerWalks_1 N (m + 1) (tokens, heights, head, i, w) = cond (decide (i < (((List.length heights) : Nat) : Int)))
   (obind (nthI heights i) fun z1 =>
    obind (nthI heights head) fun z2 =>
    cond (decide (z2 < z1))
     (some (.inr false))
     (cond (decide (i < head))
       (obind (nthI heights i) fun z3 =>
        obind (nthI heights head) fun z4 =>
        cond (decide (z3 = z4))
         (some (.inr false))
         ((l_law14_TowerWalks_1 N m (tokens, (heights, (head, ((IntKind.wrap .i64 (i + (1 : Int))), w)))))))
       ((l_law14_TowerWalks_1 N m (tokens, (heights, (head, ((IntKind.wrap .i64 (i + (1 : Int))), w))))))))
   (some (.inl (tokens, (heights, (head, w))))) := by kernel_rfl
theorem m_law14_TowerWalks_eq (N : Nat) (tokens : (List Int)) (heights : (List Int)) (place : Int) : m_law14_TowerWalks (N + 1) (tokens, heights, place) = obind (m_law14_alive N ()) fun z1 =>
  cond (!z1)
   (some false)
   (cond (decide ((60 : Int) < (((List.length tokens) : Nat) : Int)))
     (some true)
     (cond (decide ((60 : Int) < (((List.length heights) : Nat) : Int)))
       (some true)
       (obind (m_tower_Build N (tokens, heights)) fun z2 =>
        cond (!(decide (z2.1 = (0 : Int))))
         (obind (m_tower_Head N (z2.2.1, (z2.2.2.1, z2.2.2.2))) fun z3 =>
          cond (decide (z3 = (-(1 : Int))))
           (obind (m_tower_Walk N (z2.2.1, (z2.2.2.1, (z2.2.2.2, (0 : Int))))) fun z4 =>
            some (decide ((((List.length z4) : Nat) : Int) = (0 : Int))))
           (some false))
         (obind (remI (IntKind.wrap .i64 place) (((List.length tokens) : Nat) : Int)) fun z5 =>
          obind (m_tower_Walk N (z2.2.1, (z2.2.2.1, (z2.2.2.2, z5)))) fun z6 =>
          obind (m_tower_Head N (z2.2.1, (z2.2.2.1, z2.2.2.2))) fun z7 =>
          cond (decide (z7 < (0 : Int)))
           (some false)
           (cond (decide ((((List.length heights) : Nat) : Int) ≤ z7))
             (some false)
             (cond (decide ((((List.length z6) : Nat) : Int) = (0 : Int)))
               (some false)
               (obind (nthI z6 (0 : Int)) fun z8 =>
                obind (nthI z6 (0 : Int)) fun z9 =>
                cond (!(decide (z9 = z5)))
                 (some false)
                 (obind (l_law14_TowerWalks_1 N N (tokens, (heights, (z7, ((0 : Int), z6))))) fun z10 =>
                  (match z10 with
                  | .inl zy11 => obind (l_law14_TowerWalks_2 N N (zy11.1, (zy11.2.1, (zy11.2.2.1, ((1 : Int), zy11.2.2.2))))) fun z12 =>
                    (match z12 with
                    | .inl zy13 => obind (nthI zy13.2.2.2 (IntKind.wrap .i64 ((((List.length zy13.2.2.2) : Nat) : Int) - (1 : Int)))) fun z14 =>
                      obind (nthI zy13.2.2.2 (IntKind.wrap .i64 ((((List.length zy13.2.2.2) : Nat) : Int) - (1 : Int)))) fun z15 =>
                      obind (nthI zy13.2.1 z15) fun z16 =>
                      obind (nthI zy13.2.1 zy13.2.2.1) fun z17 =>
                      cond (decide (z16 = z17))
                       (some (decide ((((List.length zy13.2.2.2) : Nat) : Int) ≤ (((List.length zy13.1) : Nat) : Int))))
                       (some false)
                    | .inr zy18 => some zy18)
                  | .inr zy19 => some zy19))))))))) := by kernel_rfl
theorem c_law14_TowerWalks_ok (N : Nat) : (c_law14_TowerWalks N).ok Tryd.prog := exF_ok (T := T) (CT := ct_law14_TowerWalks) (N := N) (fun M => ⟨tOk, (ctAll_cons (c_law14_alive_ok M) (ctAll_cons (c_tower_Build_ok M) (ctAll_cons (c_tower_Head_ok M) (ctAll_cons (c_tower_Walk_ok M) ctAll_nil)))), mixed⟩) Tryd.func6 (by kernel_rfl) (by kernel_rfl) p_law14_TowerWalks [.h (.sl (.i .i64)), .h (.sl (.i .i64)), .h (.i .u8)] [] [(.sl (.i .i64)), (.sl (.i .i64)), (.i .u8)] r_law14_TowerWalks false true [] (by kernel_rfl) (fun y => by kernel_rfl) (fun _ => ⟨rfl, rfl⟩) (fun y => by kernel_rfl) (m_law14_TowerWalks N) (fun x => by kernel_rfl)
/-! archipelago/archipelagolaw14.TowerLevels -/
noncomputable def ct_law14_TowerLevels (N : Nat) : List Ctr := [c_law14_alive N, c_tower_Build N, c_tower_Level N]
def i_law14_TowerLevels_3 : PS := ⟨[(1, .h (.sl (.i .i64))), (5, .k (.pt 900 0)), (7, .h (.i .i64)), (8, .h (.i .i64)), (9, .h (.i .i64)), (12, .h (.i .i64)), (13, .h (.i .i64))], [(900, .box 27 [.h (.sl (.i .i64)), .h (.sl (.i .i64)), .h (.sl (.sl (.i .i64)))])], [(.sl (.i .i64)), (.i .i64), (.i .i64), (.i .i64), (.i .i64), (.i .i64), (.sl (.i .i64)), (.sl (.i .i64)), (.sl (.sl (.i .i64)))]⟩
def o_law14_TowerLevels_3 : List (Exit × PS) := [((.exit 2), ⟨[(7, .h (.i .i64)), (8, .h (.i .i64)), (9, .h (.i .i64)), (12, .h (.i .i64))], [], [(.i .i64), (.i .i64), (.i .i64), (.i .i64)]⟩), (.ret, ⟨[(4, .h .b)], [], [.b]⟩)]
def p_law14_TowerLevels_3 : Pl := .z
noncomputable def l_law14_TowerLevels_3 (N : Nat) : Nat → (List Int) × Int × Int × Int × Int × Int × (List Int) × (List Int) × (List (List Int)) → Option ((Int × Int × Int × Int) ⊕ (Bool)) := loopF (exC T (ct_law14_TowerLevels N) N (codeAt [1, 1, 1, 1, 1, 1, 1, 1, 1, 0, 1, 0, 0] (bodyOf Tryd.f7))) 111 i_law14_TowerLevels_3 o_law14_TowerLevels_3 p_law14_TowerLevels_3
def i_law14_TowerLevels_2 : PS := ⟨[(1, .h (.sl (.i .i64))), (5, .k (.pt 900 0)), (7, .h (.i .i64)), (8, .h (.i .i64)), (9, .h (.i .i64)), (10, .h (.i .i64)), (11, .k (.ow 901))], [(900, .box 27 [.h (.sl (.i .i64)), .h (.sl (.i .i64)), .h (.sl (.sl (.i .i64)))]), (901, .arr 3 (.i .i64) true)], [(.sl (.i .i64)), (.i .i64), (.i .i64), (.i .i64), (.i .i64), (.sl (.i .i64)), (.sl (.i .i64)), (.sl (.sl (.i .i64))), (.sl (.i .i64))]⟩
def o_law14_TowerLevels_2 : List (Exit × PS) := [(.ret, ⟨[(4, .h .b)], [], [.b]⟩), (.normal, ⟨[(1, .h (.sl (.i .i64))), (5, .k (.pt 900 0)), (7, .h (.i .i64)), (8, .h (.i .i64)), (10, .h (.i .i64)), (11, .k (.ow 901)), (46, .h (.i .i64)), (47, .h .b), (48, .h .b), (53, .h .b)], [(900, .box 27 [.h (.sl (.i .i64)), .h (.sl (.i .i64)), .h (.sl (.sl (.i .i64)))]), (901, .arr 3 (.i .i64) true)], [(.sl (.i .i64)), (.i .i64), (.i .i64), (.i .i64), (.i .i64), .b, .b, .b, (.sl (.i .i64)), (.sl (.i .i64)), (.sl (.sl (.i .i64))), (.sl (.i .i64))]⟩)]
def p_law14_TowerLevels_2 : Pl := .z
noncomputable def l_law14_TowerLevels_2 (N : Nat) : Nat → (List Int) × Int × Int × Int × Int × (List Int) × (List Int) × (List (List Int)) × (List Int) → Option ((Bool) ⊕ ((List Int) × Int × Int × Int × Int × Bool × Bool × Bool × (List Int) × (List Int) × (List (List Int)) × (List Int))) := joinF (exC0 T (ct_law14_TowerLevels N) N (codeAt [1, 1, 1, 1, 1, 1, 1, 0, 1, 0, 0, 1, 0, 0, 1, 0] (bodyOf Tryd.f7))) 111 i_law14_TowerLevels_2 o_law14_TowerLevels_2 p_law14_TowerLevels_2
def i_law14_TowerLevels_1 : PS := ⟨[(1, .h (.sl (.i .i64))), (5, .k (.pt 900 0)), (7, .h (.i .i64)), (8, .h (.i .i64)), (9, .h (.i .i64)), (10, .h (.i .i64))], [(900, .box 27 [.h (.sl (.i .i64)), .h (.sl (.i .i64)), .h (.sl (.sl (.i .i64)))])], [(.sl (.i .i64)), (.i .i64), (.i .i64), (.i .i64), (.i .i64), (.sl (.i .i64)), (.sl (.i .i64)), (.sl (.sl (.i .i64)))]⟩
def o_law14_TowerLevels_1 : List (Exit × PS) := [((.exit 0), ⟨[(1, .h (.sl (.i .i64))), (5, .k (.pt 900 0)), (7, .h (.i .i64)), (8, .h (.i .i64)), (9, .h (.i .i64))], [(900, .box 27 [.h (.sl (.i .i64)), .h (.sl (.i .i64)), .h (.sl (.sl (.i .i64)))])], [(.sl (.i .i64)), (.i .i64), (.i .i64), (.i .i64), (.sl (.i .i64)), (.sl (.i .i64)), (.sl (.sl (.i .i64)))]⟩), (.ret, ⟨[(4, .h .b)], [], [.b]⟩)]
def p_law14_TowerLevels_1 : Pl := (.n .z (.n (.n (.n .z (.n (.join i_law14_TowerLevels_2 o_law14_TowerLevels_2 p_law14_TowerLevels_2) .z)) .z) .z))
noncomputable def l_law14_TowerLevels_1 (N : Nat) : Nat → (List Int) × Int × Int × Int × Int × (List Int) × (List Int) × (List (List Int)) → Option (((List Int) × Int × Int × Int × (List Int) × (List Int) × (List (List Int))) ⊕ (Bool)) := loopF (exC T (ct_law14_TowerLevels N) N (codeAt [1, 1, 1, 1, 1, 1, 1, 0, 1, 0, 0] (bodyOf Tryd.f7))) 111 i_law14_TowerLevels_1 o_law14_TowerLevels_1 p_law14_TowerLevels_1
def p_law14_TowerLevels : Pl := (.n .z (.n .z (.n .z (.n .z (.n .z (.n .z (.n .z (.n (.n .z (.n (.loop i_law14_TowerLevels_1 o_law14_TowerLevels_1 p_law14_TowerLevels_1) .z)) (.n .z (.n (.n .z (.n (.loop i_law14_TowerLevels_3 o_law14_TowerLevels_3 p_law14_TowerLevels_3) .z)) .z))))))))))
def r_law14_TowerLevels : PS := ⟨[(4, .h .b)], [], [.b]⟩
noncomputable def m_law14_TowerLevels (N : Nat) : (List Int) × (List Int) → Option (Bool) := exF T ct_law14_TowerLevels N (bodyOf Tryd.f7) 111 p_law14_TowerLevels [.h (.sl (.i .i64)), .h (.sl (.i .i64))] [] [(.sl (.i .i64)), (.sl (.i .i64))] r_law14_TowerLevels
noncomputable def c_law14_TowerLevels (N : Nat) : Ctr := ⟨7, [.h (.sl (.i .i64)), .h (.sl (.i .i64))], [], [(.sl (.i .i64)), (.sl (.i .i64))], r_law14_TowerLevels.c, m_law14_TowerLevels N, fun y => resG T (mkPS 111 r_law14_TowerLevels y) Tryd.f7.results.toList, false, true, fun y => keepH' [] (mkPS 111 r_law14_TowerLevels y).h⟩
theorem l_law14_TowerLevels_3_z (N : Nat) (v : (List Int) × Int × Int × Int × Int × Int × (List Int) × (List Int) × (List (List Int))) : l_law14_TowerLevels_3 N 0 v = none := by kernel_rfl
theorem l_law14_TowerLevels_3_s (N m : Nat) (heights : (List Int)) (all : Int) (links : Int) (last : Int) (sum : Int) (i : Int) (t : (List Int)) (t2 : (List Int)) (t3 : (List (List Int))) : l_law14_TowerLevels_3 N (m + 1) (heights, all, links, last, sum, i, t, t2, t3) = cond (decide (i < (((List.length heights) : Nat) : Int)))
   (obind (nthI heights i) fun z1 =>
    cond (decide ((((List.length t3) : Nat) : Int) ≤ i))
     (some (.inr false))
     (obind (nthI t3 i) fun z2 =>
      obind (nthI heights i) fun z3 =>
      cond (!(decide ((((List.length z2) : Nat) : Int) = z3)))
       (some (.inr false))
       (obind (nthI t3 i) fun z4 =>
        (l_law14_TowerLevels_3 N m (heights, (all, ((IntKind.wrap .i64 (links + (((List.length z4) : Nat) : Int))), (last, ((IntKind.wrap .i64 (sum + z1)), ((IntKind.wrap .i64 (i + (1 : Int))), (t, (t2, t3))))))))))))
   (some (.inl (all, (links, (last, sum))))) := by kernel_rfl
theorem l_law14_TowerLevels_2_s (N m : Nat) (heights : (List Int)) (all : Int) (links : Int) (last : Int) (h : Int) (t : (List Int)) (t2 : (List Int)) (t3 : (List (List Int))) (l : (List Int)) : l_law14_TowerLevels_2 N (m + 1) (heights, all, links, last, h, t, t2, t3, l) = cond (decide (last < (((List.length l) : Nat) : Int)))
   (some (.inl false))
   (cond (decide (h = (0 : Int)))
     (cond (!(decide ((((List.length l) : Nat) : Int) = last)))
       (some (.inl false))
       (some (.inr (heights, (all, (links, (h, (h, ((decide (h = (0 : Int))), (true, ((!(decide ((((List.length l) : Nat) : Int) = last))), (t, (t2, (t3, l))))))))))))))
     (some (.inr (heights, (all, (links, (h, (h, ((decide (h = (0 : Int))), (false, (false, (t, (t2, (t3, l)))))))))))))) := by kernel_rfl
theorem l_law14_TowerLevels_1_z (N : Nat) (v : (List Int) × Int × Int × Int × Int × (List Int) × (List Int) × (List (List Int))) : l_law14_TowerLevels_1 N 0 v = none := by kernel_rfl
theorem l_law14_TowerLevels_1_s (N m : Nat) (heights : (List Int)) (all : Int) (links : Int) (last : Int) (h : Int) (t : (List Int)) (t2 : (List Int)) (t3 : (List (List Int))) : l_law14_TowerLevels_1 N (m + 1) (heights, all, links, last, h, t, t2, t3) = cond (decide (h < (9 : Int)))
   (obind (m_tower_Level N (t, (t2, (t3, h)))) fun z1 =>
    obind (l_law14_TowerLevels_2 N N (heights, (all, (links, (last, (h, (t, (t2, (t3, z1))))))))) fun z2 =>
    (match z2 with
    | .inl zy3 => some (.inr zy3)
    | .inr zy4 => (l_law14_TowerLevels_1 N m (zy4.1, ((IntKind.wrap .i64 (zy4.2.1 + (((List.length zy4.2.2.2.2.2.2.2.2.2.2.2) : Nat) : Int))), (zy4.2.2.1, ((((List.length zy4.2.2.2.2.2.2.2.2.2.2.2) : Nat) : Int), ((IntKind.wrap .i64 (zy4.2.2.2.1 + (1 : Int))), (zy4.2.2.2.2.2.2.2.2.1, (zy4.2.2.2.2.2.2.2.2.2.1, zy4.2.2.2.2.2.2.2.2.2.2.1))))))))))
   (some (.inl (heights, (all, (links, (last, (t, (t2, t3)))))))) := by kernel_rfl
theorem m_law14_TowerLevels_eq (N : Nat) (tokens : (List Int)) (heights : (List Int)) : m_law14_TowerLevels (N + 1) (tokens, heights) = obind (m_law14_alive N ()) fun z1 =>
  cond (!z1)
   (some false)
   (cond (decide ((60 : Int) < (((List.length tokens) : Nat) : Int)))
     (some true)
     (cond (decide ((60 : Int) < (((List.length heights) : Nat) : Int)))
       (some true)
       (obind (m_tower_Build N (tokens, heights)) fun z2 =>
        cond (!(decide (z2.1 = (0 : Int))))
         (some true)
         (obind (l_law14_TowerLevels_1 N N (heights, ((0 : Int), ((0 : Int), ((((List.length tokens) : Nat) : Int), ((0 : Int), (z2.2.1, (z2.2.2.1, z2.2.2.2)))))))) fun z3 =>
          (match z3 with
          | .inl zy4 => obind (l_law14_TowerLevels_3 N N (zy4.1, (zy4.2.1, (zy4.2.2.1, (zy4.2.2.2.1, ((0 : Int), ((0 : Int), (zy4.2.2.2.2.1, (zy4.2.2.2.2.2.1, zy4.2.2.2.2.2.2))))))))) fun z5 =>
            (match z5 with
            | .inl zy6 => cond (decide (zy6.1 = zy6.2.2.2))
               (cond (decide (zy6.2.1 = zy6.2.2.2))
                 (some (decide (zy6.2.2.1 = (0 : Int))))
                 (some false))
               (some false)
            | .inr zy7 => some zy7)
          | .inr zy8 => some zy8))))) := by kernel_rfl
theorem c_law14_TowerLevels_ok (N : Nat) : (c_law14_TowerLevels N).ok Tryd.prog := exF_ok (T := T) (CT := ct_law14_TowerLevels) (N := N) (fun M => ⟨tOk, (ctAll_cons (c_law14_alive_ok M) (ctAll_cons (c_tower_Build_ok M) (ctAll_cons (c_tower_Level_ok M) ctAll_nil))), mixed⟩) Tryd.func7 (by kernel_rfl) (by kernel_rfl) p_law14_TowerLevels [.h (.sl (.i .i64)), .h (.sl (.i .i64))] [] [(.sl (.i .i64)), (.sl (.i .i64))] r_law14_TowerLevels false true [] (by kernel_rfl) (fun y => by kernel_rfl) (fun _ => ⟨rfl, rfl⟩) (fun y => by kernel_rfl) (m_law14_TowerLevels N) (fun x => by kernel_rfl)
end Go.Proofs.YtmijkdlkhakmiaaDoor
