/- The functions of this seat, reckoned: of each what it computes, as a tree, and its contract (printed by wip/tool/plan.sh). -/
import Derived.Test.YtiejnblpmfgpbaaTys
set_option linter.unusedVariables false
set_option maxRecDepth 100000
namespace Go.Proofs.Ytiejnblpmfgpbaa
open Go Go.RowKit
/-! archipelago/pool.Make -/
noncomputable def ct_pool_Make (N : Nat) : List Ctr := []
def i_pool_Make_1 : PS := ⟨[(0, .h (.i .i64)), (2, .k (.pt 900 0)), (4, .k (.pt 901 0)), (16, .h (.i .i64)), (17, .h (.i .i64))], [(900, .box 24 [.k .nil, .k .nil]), (901, .box 24 [.k (.ow 902), .k (.ow 903)]), (902, .arr 3 (.i .i64) true), (903, .arr 3 (.i .i64) true)], [(.i .i64), (.i .i64), (.i .i64), (.sl (.i .i64)), (.sl (.i .i64))]⟩
def o_pool_Make_1 : List (Exit × PS) := [((.exit 0), ⟨[(2, .k (.pt 900 0)), (4, .k (.pt 901 0))], [(900, .box 24 [.k .nil, .k .nil]), (901, .box 24 [.k (.ow 902), .k (.ow 903)]), (902, .arr 3 (.i .i64) true), (903, .arr 3 (.i .i64) true)], [(.sl (.i .i64)), (.sl (.i .i64))]⟩)]
def p_pool_Make_1 : Pl := .z
noncomputable def l_pool_Make_1 (N : Nat) : Nat → Int × Int × Int × (List Int) × (List Int) → Option ((List Int) × (List Int)) := loopF (exC T (ct_pool_Make N) N (codeAt [1, 1, 1, 0, 1, 0, 0] (bodyOf Try.f13))) 31 i_pool_Make_1 o_pool_Make_1 p_pool_Make_1
def p_pool_Make : Pl := (.n .z (.n .z (.n .z (.n (.n .z (.n (.loop i_pool_Make_1 o_pool_Make_1 p_pool_Make_1) .z)) .z))))
def r_pool_Make : PS := ⟨[(2, .k (.pt 900 0)), (3, .h (.i .i64))], [(900, .box 24 [.h (.sl (.i .i64)), .h (.sl (.i .i64))])], [(.i .i64), (.sl (.i .i64)), (.sl (.i .i64))]⟩
noncomputable def m_pool_Make (N : Nat) : Int → Option (Int × (List Int) × (List Int)) := exF T ct_pool_Make N (bodyOf Try.f13) 31 p_pool_Make [.h (.i .i64)] r_pool_Make
noncomputable def c_pool_Make (N : Nat) : Ctr := ⟨13, [.h (.i .i64)], r_pool_Make.c, m_pool_Make N, fun y => resG T (mkPS 31 r_pool_Make y) Try.f13.results.toList, false, fun y => keepH' [] (mkPS 31 r_pool_Make y).h⟩
theorem l_pool_Make_1_z (N : Nat) (v : Int × Int × Int × (List Int) × (List Int)) : l_pool_Make_1 N 0 v = none := by kernel_rfl
theorem l_pool_Make_1_s (N m : Nat) (n : Int) (v16 : Int) (v17 : Int) (v902 : (List Int)) (v903 : (List Int)) : l_pool_Make_1 N (m + 1) (n, v16, v17, v902, v903) = cond (decide (v17 < v16))
   (obind (appI (8 : Nat) v903 [(IntKind.wrap .i64 ((IntKind.wrap .i64 (n - (1 : Int))) - v17))]) fun z1 =>
    (l_pool_Make_1 N m (n, (v16, ((IntKind.wrap .i64 (v17 + (1 : Int))), (v902, z1))))))
   (some (v902, v903)) := by kernel_rfl
theorem m_pool_Make_eq (N : Nat) (n : Int) : m_pool_Make (N + 1) (n) = cond (decide (n < (1 : Int)))
   (some ((1 : Int), ([], [])))
   (cond (decide ((1000 : Int) < n))
     (some ((1 : Int), ([], [])))
     (obind (makI n (8 : Nat)) fun z1 =>
      obind (l_pool_Make_1 N N (n, (n, ((0 : Int), ((List.replicate z1 (0 : Int)), []))))) fun z2 =>
      some ((0 : Int), (z2.1, z2.2)))) := by kernel_rfl
theorem c_pool_Make_ok (N : Nat) : (c_pool_Make N).ok Try.prog := exF_ok (T := T) (CT := ct_pool_Make) (N := N) (fun M => ⟨tOk, ctAll_nil, mixed⟩) Try.func13 (by kernel_rfl) (by kernel_rfl) p_pool_Make [.h (.i .i64)] r_pool_Make false [] (by kernel_rfl) (fun y => by kernel_rfl) (fun _ => rfl) (m_pool_Make N) (fun x => by kernel_rfl)
/-! slices.Min[[]int,int] -/
noncomputable def ct_slices_Min_Lint_int (N : Nat) : List Ctr := []
def i_slices_Min_Lint_int_1 : PS := ⟨[(0, .h (.sl (.i .i64))), (3, .h (.i .i64)), (4, .h (.i .i64))], [], [(.sl (.i .i64)), (.i .i64), (.i .i64)]⟩
def o_slices_Min_Lint_int_1 : List (Exit × PS) := [((.exit 0), ⟨[(3, .h (.i .i64))], [], [(.i .i64)]⟩)]
def p_slices_Min_Lint_int_1 : Pl := .z
noncomputable def l_slices_Min_Lint_int_1 (N : Nat) : Nat → (List Int) × Int × Int → Option (Int) := loopF (exC T (ct_slices_Min_Lint_int N) N (codeAt [1, 1, 1, 0, 1, 0, 0] (bodyOf Try.f25))) 25 i_slices_Min_Lint_int_1 o_slices_Min_Lint_int_1 p_slices_Min_Lint_int_1
def p_slices_Min_Lint_int : Pl := (.n .z (.n .z (.n .z (.n (.n .z (.n (.loop i_slices_Min_Lint_int_1 o_slices_Min_Lint_int_1 p_slices_Min_Lint_int_1) .z)) .z))))
def r_slices_Min_Lint_int : PS := ⟨[(2, .h (.i .i64))], [], [(.i .i64)]⟩
noncomputable def m_slices_Min_Lint_int (N : Nat) : (List Int) → Option (Int) := exF T ct_slices_Min_Lint_int N (bodyOf Try.f25) 25 p_slices_Min_Lint_int [.h (.sl (.i .i64))] r_slices_Min_Lint_int
noncomputable def c_slices_Min_Lint_int (N : Nat) : Ctr := ⟨25, [.h (.sl (.i .i64))], r_slices_Min_Lint_int.c, m_slices_Min_Lint_int N, fun y => resG T (mkPS 25 r_slices_Min_Lint_int y) Try.f25.results.toList, false, fun y => keepH' [] (mkPS 25 r_slices_Min_Lint_int y).h⟩
theorem l_slices_Min_Lint_int_1_z (N : Nat) (v : (List Int) × Int × Int) : l_slices_Min_Lint_int_1 N 0 v = none := by kernel_rfl
theorem l_slices_Min_Lint_int_1_s (N m : Nat) (x : (List Int)) (v3 : Int) (i : Int) : l_slices_Min_Lint_int_1 N (m + 1) (x, v3, i) = cond (decide (i < (((List.length x) : Nat) : Int)))
   (obind (nthI x i) fun z1 =>
    (l_slices_Min_Lint_int_1 N m (x, ((if (z1 < v3) then z1 else v3), (IntKind.wrap .i64 (i + (1 : Int)))))))
   (some v3) := by kernel_rfl
theorem m_slices_Min_Lint_int_eq (N : Nat) (x : (List Int)) : m_slices_Min_Lint_int (N + 1) (x) = cond (decide ((((List.length x) : Nat) : Int) < (1 : Int)))
   (none)
   (obind (nthI x (0 : Int)) fun z1 =>
    obind (l_slices_Min_Lint_int_1 N N (x, (z1, (1 : Int)))) fun z2 =>
    some z2) := by kernel_rfl
theorem c_slices_Min_Lint_int_ok (N : Nat) : (c_slices_Min_Lint_int N).ok Try.prog := exF_ok (T := T) (CT := ct_slices_Min_Lint_int) (N := N) (fun M => ⟨tOk, ctAll_nil, mixed⟩) Try.func25 (by kernel_rfl) (by kernel_rfl) p_slices_Min_Lint_int [.h (.sl (.i .i64))] r_slices_Min_Lint_int false [] (by kernel_rfl) (fun y => by kernel_rfl) (fun _ => rfl) (m_slices_Min_Lint_int N) (fun x => by kernel_rfl)
/-! slices.Max[[]int,int] -/
noncomputable def ct_slices_Max_Lint_int (N : Nat) : List Ctr := []
def i_slices_Max_Lint_int_1 : PS := ⟨[(0, .h (.sl (.i .i64))), (3, .h (.i .i64)), (4, .h (.i .i64))], [], [(.sl (.i .i64)), (.i .i64), (.i .i64)]⟩
def o_slices_Max_Lint_int_1 : List (Exit × PS) := [((.exit 0), ⟨[(3, .h (.i .i64))], [], [(.i .i64)]⟩)]
def p_slices_Max_Lint_int_1 : Pl := .z
noncomputable def l_slices_Max_Lint_int_1 (N : Nat) : Nat → (List Int) × Int × Int → Option (Int) := loopF (exC T (ct_slices_Max_Lint_int N) N (codeAt [1, 1, 1, 0, 1, 0, 0] (bodyOf Try.f26))) 25 i_slices_Max_Lint_int_1 o_slices_Max_Lint_int_1 p_slices_Max_Lint_int_1
def p_slices_Max_Lint_int : Pl := (.n .z (.n .z (.n .z (.n (.n .z (.n (.loop i_slices_Max_Lint_int_1 o_slices_Max_Lint_int_1 p_slices_Max_Lint_int_1) .z)) .z))))
def r_slices_Max_Lint_int : PS := ⟨[(2, .h (.i .i64))], [], [(.i .i64)]⟩
noncomputable def m_slices_Max_Lint_int (N : Nat) : (List Int) → Option (Int) := exF T ct_slices_Max_Lint_int N (bodyOf Try.f26) 25 p_slices_Max_Lint_int [.h (.sl (.i .i64))] r_slices_Max_Lint_int
noncomputable def c_slices_Max_Lint_int (N : Nat) : Ctr := ⟨26, [.h (.sl (.i .i64))], r_slices_Max_Lint_int.c, m_slices_Max_Lint_int N, fun y => resG T (mkPS 25 r_slices_Max_Lint_int y) Try.f26.results.toList, false, fun y => keepH' [] (mkPS 25 r_slices_Max_Lint_int y).h⟩
theorem l_slices_Max_Lint_int_1_z (N : Nat) (v : (List Int) × Int × Int) : l_slices_Max_Lint_int_1 N 0 v = none := by kernel_rfl
theorem l_slices_Max_Lint_int_1_s (N m : Nat) (x : (List Int)) (v3 : Int) (i : Int) : l_slices_Max_Lint_int_1 N (m + 1) (x, v3, i) = cond (decide (i < (((List.length x) : Nat) : Int)))
   (obind (nthI x i) fun z1 =>
    (l_slices_Max_Lint_int_1 N m (x, ((if (z1 > v3) then z1 else v3), (IntKind.wrap .i64 (i + (1 : Int)))))))
   (some v3) := by kernel_rfl
theorem m_slices_Max_Lint_int_eq (N : Nat) (x : (List Int)) : m_slices_Max_Lint_int (N + 1) (x) = cond (decide ((((List.length x) : Nat) : Int) < (1 : Int)))
   (none)
   (obind (nthI x (0 : Int)) fun z1 =>
    obind (l_slices_Max_Lint_int_1 N N (x, (z1, (1 : Int)))) fun z2 =>
    some z2) := by kernel_rfl
theorem c_slices_Max_Lint_int_ok (N : Nat) : (c_slices_Max_Lint_int N).ok Try.prog := exF_ok (T := T) (CT := ct_slices_Max_Lint_int) (N := N) (fun M => ⟨tOk, ctAll_nil, mixed⟩) Try.func26 (by kernel_rfl) (by kernel_rfl) p_slices_Max_Lint_int [.h (.sl (.i .i64))] r_slices_Max_Lint_int false [] (by kernel_rfl) (fun y => by kernel_rfl) (fun _ => rfl) (m_slices_Max_Lint_int N) (fun x => by kernel_rfl)
/-! archipelago/pool.Right -/
noncomputable def ct_pool_Right (N : Nat) : List Ctr := [c_slices_Min_Lint_int N, c_slices_Max_Lint_int N]
def i_pool_Right_1 : PS := ⟨[(3, .h (.i .i64)), (4, .k (.mp 900)), (30, .h (.sl (.i .i64))), (31, .h (.i .i64)), (32, .h (.i .i64))], [(900, .mp (.int .i64) (.i .i64) (.i .i64))], [(.i .i64), (.sl (.i .i64)), (.i .i64), (.i .i64), (.sl (.pr (.i .i64) (.i .i64)))]⟩
def o_pool_Right_1 : List (Exit × PS) := [((.exit 0), ⟨[], [], []⟩), (.ret, ⟨[(2, .h .b)], [], [.b]⟩)]
def p_pool_Right_1 : Pl := .z
noncomputable def l_pool_Right_1 (N : Nat) : Nat → Int × (List Int) × Int × Int × (List (Int × Int)) → Option ((Unit) ⊕ (Bool)) := loopF (exC T (ct_pool_Right N) N (codeAt [1, 1, 1, 1, 0, 1, 0, 0] (bodyOf Try.f16))) 54 i_pool_Right_1 o_pool_Right_1 p_pool_Right_1
def p_pool_Right : Pl := (.n .z (.n .z (.n .z (.n .z (.n (.n .z (.n (.loop i_pool_Right_1 o_pool_Right_1 p_pool_Right_1) .z)) .z)))))
def r_pool_Right : PS := ⟨[(2, .h .b)], [], [.b]⟩
noncomputable def m_pool_Right (N : Nat) : (List Int) × (List Int) → Option (Bool) := exF T ct_pool_Right N (bodyOf Try.f16) 54 p_pool_Right [.ag [(.sl (.i .i64)), (.sl (.i .i64))]] r_pool_Right
noncomputable def c_pool_Right (N : Nat) : Ctr := ⟨16, [.ag [(.sl (.i .i64)), (.sl (.i .i64))]], r_pool_Right.c, m_pool_Right N, fun y => resG T (mkPS 54 r_pool_Right y) Try.f16.results.toList, false, fun y => keepH' [] (mkPS 54 r_pool_Right y).h⟩
theorem l_pool_Right_1_z (N : Nat) (v : Int × (List Int) × Int × Int × (List (Int × Int))) : l_pool_Right_1 N 0 v = none := by kernel_rfl
theorem l_pool_Right_1_s (N m : Nat) (n : Int) (v30 : (List Int)) (v31 : Int) (v32 : Int) (met : (List (Int × Int))) : l_pool_Right_1 N (m + 1) (n, v30, v31, v32, met) = cond (decide (v32 < v31))
   (obind (nthI v30 v32) fun z1 =>
    cond (decide (z1 < (0 : Int)))
     (some (.inr false))
     (cond (decide (n ≤ z1))
       (some (.inr false))
       (cond (decide ((1 : Int) < (Option.getD (mget (.i .i64) (mput (.i .i64) met z1 (IntKind.wrap .i64 ((Option.getD (mget (.i .i64) met z1) (0 : Int)) + (1 : Int)))) z1) (0 : Int))))
         (some (.inr false))
         ((l_pool_Right_1 N m (n, (v30, (v31, ((IntKind.wrap .i64 (v32 + (1 : Int))), (mput (.i .i64) met z1 (IntKind.wrap .i64 ((Option.getD (mget (.i .i64) met z1) (0 : Int)) + (1 : Int)))))))))))))
   (some (.inl ())) := by kernel_rfl
theorem m_pool_Right_eq (N : Nat) (p : (List Int)) (p2 : (List Int)) : m_pool_Right (N + 1) (p, p2) = cond (decide ((((List.length p) : Nat) : Int) = (0 : Int)))
   (some false)
   (cond (decide ((1000 : Int) < (((List.length p) : Nat) : Int)))
     (some false)
     (obind (m_slices_Min_Lint_int N p) fun z1 =>
      cond (decide (z1 < (0 : Int)))
       (some false)
       (obind (m_slices_Max_Lint_int N p) fun z2 =>
        cond (decide ((1073741824 : Int) < z2))
         (some false)
         (obind (l_pool_Right_1 N N ((((List.length p) : Nat) : Int), (p2, ((((List.length p2) : Nat) : Int), ((0 : Int), []))))) fun z3 =>
          (match z3 with
          | .inl zy4 => some true
          | .inr zy5 => some zy5))))) := by kernel_rfl
theorem c_pool_Right_ok (N : Nat) : (c_pool_Right N).ok Try.prog := exF_ok (T := T) (CT := ct_pool_Right) (N := N) (fun M => ⟨tOk, (ctAll_cons (c_slices_Min_Lint_int_ok M) (ctAll_cons (c_slices_Max_Lint_int_ok M) ctAll_nil)), mixed⟩) Try.func16 (by kernel_rfl) (by kernel_rfl) p_pool_Right [.ag [(.sl (.i .i64)), (.sl (.i .i64))]] r_pool_Right false [] (by kernel_rfl) (fun y => by kernel_rfl) (fun _ => rfl) (m_pool_Right N) (fun x => by kernel_rfl)
/-! slices.Clip[[]int,int] -/
noncomputable def ct_slices_Clip_Lint_int (N : Nat) : List Ctr := []
def p_slices_Clip_Lint_int : Pl := .z
def r_slices_Clip_Lint_int : PS := ⟨[(2, .t (.i .i64))], [], [(.sl (.i .i64))]⟩
noncomputable def m_slices_Clip_Lint_int (N : Nat) : (List Int) → Option ((List Int)) := exF T ct_slices_Clip_Lint_int N (bodyOf Try.f23) 9 p_slices_Clip_Lint_int [.h (.sl (.i .i64))] r_slices_Clip_Lint_int
noncomputable def c_slices_Clip_Lint_int (N : Nat) : Ctr := ⟨23, [.h (.sl (.i .i64))], r_slices_Clip_Lint_int.c, m_slices_Clip_Lint_int N, fun y => resG T (mkPS 9 r_slices_Clip_Lint_int y) Try.f23.results.toList, false, fun y => keepH' [] (mkPS 9 r_slices_Clip_Lint_int y).h⟩
theorem m_slices_Clip_Lint_int_eq (N : Nat) (s : (List Int)) : m_slices_Clip_Lint_int (N + 1) (s) = obind (subM s (0 : Int) (((List.length s) : Nat) : Int) (((List.length s) : Nat) : Int)) fun z1 =>
  cond (decide ((((List.length s) : Nat) : Int) = (((List.length s) : Nat) : Int)))
   (some z1)
   (none) := by kernel_rfl
theorem c_slices_Clip_Lint_int_ok (N : Nat) : (c_slices_Clip_Lint_int N).ok Try.prog := exF_ok (T := T) (CT := ct_slices_Clip_Lint_int) (N := N) (fun M => ⟨tOk, ctAll_nil, mixed⟩) Try.func23 (by kernel_rfl) (by kernel_rfl) p_slices_Clip_Lint_int [.h (.sl (.i .i64))] r_slices_Clip_Lint_int false [] (by kernel_rfl) (fun y => by kernel_rfl) (fun _ => rfl) (m_slices_Clip_Lint_int N) (fun x => by kernel_rfl)
/-! slices.Clone[[]int,int] -/
noncomputable def ct_slices_Clone_Lint_int (N : Nat) : List Ctr := []
def p_slices_Clone_Lint_int : Pl := .z
def r_slices_Clone_Lint_int : PS := ⟨[(2, .k (.ow 900))], [(900, .arr 3 (.i .i64) true)], [(.sl (.i .i64))]⟩
noncomputable def m_slices_Clone_Lint_int (N : Nat) : (List Int) → Option ((List Int)) := exF T ct_slices_Clone_Lint_int N (bodyOf Try.f24) 8 p_slices_Clone_Lint_int [.h (.sl (.i .i64))] r_slices_Clone_Lint_int
noncomputable def c_slices_Clone_Lint_int (N : Nat) : Ctr := ⟨24, [.h (.sl (.i .i64))], r_slices_Clone_Lint_int.c, m_slices_Clone_Lint_int N, fun y => resG T (mkPS 8 r_slices_Clone_Lint_int y) Try.f24.results.toList, true, fun y => keepH' [900] (mkPS 8 r_slices_Clone_Lint_int y).h⟩
theorem m_slices_Clone_Lint_int_eq (N : Nat) (s : (List Int)) : m_slices_Clone_Lint_int (N + 1) (s) = cond (isNilB s)
   (dem fun zb1 =>
    cond zb1
     (some [])
     (obind (appI (8 : Nat) [] s) fun z2 =>
      some z2))
   (obind (appI (8 : Nat) [] s) fun z3 =>
    some z3) := by kernel_rfl
theorem c_slices_Clone_Lint_int_ok (N : Nat) : (c_slices_Clone_Lint_int N).ok Try.prog := exF_ok (T := T) (CT := ct_slices_Clone_Lint_int) (N := N) (fun M => ⟨tOk, ctAll_nil, mixed⟩) Try.func24 (by kernel_rfl) (by kernel_rfl) p_slices_Clone_Lint_int [.h (.sl (.i .i64))] r_slices_Clone_Lint_int true [900] (by kernel_rfl) (fun y => by kernel_rfl) (fun h => by cases h) (m_slices_Clone_Lint_int N) (fun x => by kernel_rfl)
/-! archipelago/pool.Take -/
noncomputable def ct_pool_Take (N : Nat) : List Ctr := [c_pool_Right N, c_slices_Clip_Lint_int N, c_slices_Clone_Lint_int N]
def p_pool_Take : Pl := .z
def r_pool_Take : PS := ⟨[(2, .k (.pt 900 0)), (3, .k (.pt 901 0)), (4, .h (.i .i64))], [(900, .box 24 [.h (.sl (.i .i64)), .h (.sl (.i .i64))]), (901, .box 26 [.h (.i .i64), .h (.i .i64)])], [(.i .i64), (.sl (.i .i64)), (.sl (.i .i64)), (.i .i64), (.i .i64)]⟩
noncomputable def m_pool_Take (N : Nat) : (List Int) × (List Int) → Option (Int × (List Int) × (List Int) × Int × Int) := exF T ct_pool_Take N (bodyOf Try.f9) 62 p_pool_Take [.ag [(.sl (.i .i64)), (.sl (.i .i64))]] r_pool_Take
noncomputable def c_pool_Take (N : Nat) : Ctr := ⟨9, [.ag [(.sl (.i .i64)), (.sl (.i .i64))]], r_pool_Take.c, m_pool_Take N, fun y => resG T (mkPS 62 r_pool_Take y) Try.f9.results.toList, false, fun y => keepH' [] (mkPS 62 r_pool_Take y).h⟩
theorem m_pool_Take_eq (N : Nat) (p : (List Int)) (p2 : (List Int)) : m_pool_Take (N + 1) (p, p2) = obind (m_pool_Right N (p, p2)) fun z1 =>
  cond (!z1)
   (some ((1 : Int), (p, (p2, ((0 : Int), (0 : Int))))))
   (cond (decide ((IntKind.wrap .i64 ((((List.length p2) : Nat) : Int) - (1 : Int))) < (0 : Int)))
     (some ((2 : Int), (p, (p2, ((0 : Int), (0 : Int))))))
     (obind (nthI p2 (IntKind.wrap .i64 ((((List.length p2) : Nat) : Int) - (1 : Int)))) fun z2 =>
      obind (nthI p z2) fun z3 =>
      cond (decide (z3 = (1073741824 : Int)))
       (some ((2 : Int), (p, (p2, ((0 : Int), (0 : Int))))))
       (obind (nthI p2 (IntKind.wrap .i64 ((((List.length p2) : Nat) : Int) - (1 : Int)))) fun z4 =>
        obind (subI p2 (0 : Int) (IntKind.wrap .i64 ((((List.length p2) : Nat) : Int) - (1 : Int)))) fun z5 =>
        obind (m_slices_Clip_Lint_int N z5) fun z6 =>
        obind (m_slices_Clone_Lint_int N p) fun z7 =>
        obind (nthI z7 z4) fun z8 =>
        obind (nthI z7 z4) fun z9 =>
        obind (nthI z7 z4) fun z10 =>
        obind (nthI z7 z4) fun z11 =>
        obind (nthI (List.set z7 (Int.toNat z4) (IntKind.wrap .i64 (z9 + (1 : Int)))) z4) fun z12 =>
        obind (nthI (List.set z7 (Int.toNat z4) (IntKind.wrap .i64 (z9 + (1 : Int)))) z4) fun z13 =>
        some ((0 : Int), ((List.set z7 (Int.toNat z4) (IntKind.wrap .i64 (z9 + (1 : Int)))), (z6, (z4, z13))))))) := by kernel_rfl
theorem c_pool_Take_ok (N : Nat) : (c_pool_Take N).ok Try.prog := exF_ok (T := T) (CT := ct_pool_Take) (N := N) (fun M => ⟨tOk, (ctAll_cons (c_pool_Right_ok M) (ctAll_cons (c_slices_Clip_Lint_int_ok M) (ctAll_cons (c_slices_Clone_Lint_int_ok M) ctAll_nil))), mixed⟩) Try.func9 (by kernel_rfl) (by kernel_rfl) p_pool_Take [.ag [(.sl (.i .i64)), (.sl (.i .i64))]] r_pool_Take false [] (by kernel_rfl) (fun y => by kernel_rfl) (fun _ => rfl) (m_pool_Take N) (fun x => by kernel_rfl)
/-! slices.Index[[]int,int] -/
noncomputable def ct_slices_Index_Lint_int (N : Nat) : List Ctr := []
def i_slices_Index_Lint_int_1 : PS := ⟨[(0, .h (.sl (.i .i64))), (1, .h (.i .i64)), (7, .h (.i .i64)), (8, .h (.i .i64))], [], [(.sl (.i .i64)), (.i .i64), (.i .i64), (.i .i64)]⟩
def o_slices_Index_Lint_int_1 : List (Exit × PS) := [((.exit 0), ⟨[], [], []⟩), (.ret, ⟨[(4, .h (.i .i64))], [], [(.i .i64)]⟩)]
def p_slices_Index_Lint_int_1 : Pl := .z
noncomputable def l_slices_Index_Lint_int_1 (N : Nat) : Nat → (List Int) × Int × Int × Int → Option ((Unit) ⊕ (Int)) := loopF (exC T (ct_slices_Index_Lint_int N) N (codeAt [1, 0, 1, 0, 0] (bodyOf Try.f28))) 19 i_slices_Index_Lint_int_1 o_slices_Index_Lint_int_1 p_slices_Index_Lint_int_1
def p_slices_Index_Lint_int : Pl := (.n .z (.n (.n .z (.n (.loop i_slices_Index_Lint_int_1 o_slices_Index_Lint_int_1 p_slices_Index_Lint_int_1) .z)) .z))
def r_slices_Index_Lint_int : PS := ⟨[(4, .h (.i .i64))], [], [(.i .i64)]⟩
noncomputable def m_slices_Index_Lint_int (N : Nat) : (List Int) × Int → Option (Int) := exF T ct_slices_Index_Lint_int N (bodyOf Try.f28) 19 p_slices_Index_Lint_int [.h (.sl (.i .i64)), .h (.i .i64)] r_slices_Index_Lint_int
noncomputable def c_slices_Index_Lint_int (N : Nat) : Ctr := ⟨28, [.h (.sl (.i .i64)), .h (.i .i64)], r_slices_Index_Lint_int.c, m_slices_Index_Lint_int N, fun y => resG T (mkPS 19 r_slices_Index_Lint_int y) Try.f28.results.toList, false, fun y => keepH' [] (mkPS 19 r_slices_Index_Lint_int y).h⟩
theorem l_slices_Index_Lint_int_1_z (N : Nat) (v : (List Int) × Int × Int × Int) : l_slices_Index_Lint_int_1 N 0 v = none := by kernel_rfl
theorem l_slices_Index_Lint_int_1_s (N m : Nat) (s : (List Int)) (v : Int) (v7 : Int) (v8 : Int) : l_slices_Index_Lint_int_1 N (m + 1) (s, v, v7, v8) = cond (decide (v8 < v7))
   (obind (nthI s v8) fun z1 =>
    cond (decide (v = z1))
     (some (.inr v8))
     ((l_slices_Index_Lint_int_1 N m (s, (v, (v7, (IntKind.wrap .i64 (v8 + (1 : Int)))))))))
   (some (.inl ())) := by kernel_rfl
theorem m_slices_Index_Lint_int_eq (N : Nat) (s : (List Int)) (v : Int) : m_slices_Index_Lint_int (N + 1) (s, v) = obind (l_slices_Index_Lint_int_1 N N (s, (v, ((((List.length s) : Nat) : Int), (0 : Int))))) fun z1 =>
  (match z1 with
  | .inl zy2 => some (-(1 : Int))
  | .inr zy3 => some zy3) := by kernel_rfl
theorem c_slices_Index_Lint_int_ok (N : Nat) : (c_slices_Index_Lint_int N).ok Try.prog := exF_ok (T := T) (CT := ct_slices_Index_Lint_int) (N := N) (fun M => ⟨tOk, ctAll_nil, mixed⟩) Try.func28 (by kernel_rfl) (by kernel_rfl) p_slices_Index_Lint_int [.h (.sl (.i .i64)), .h (.i .i64)] r_slices_Index_Lint_int false [] (by kernel_rfl) (fun y => by kernel_rfl) (fun _ => rfl) (m_slices_Index_Lint_int N) (fun x => by kernel_rfl)
/-! slices.Contains[[]int,int] -/
noncomputable def ct_slices_Contains_Lint_int (N : Nat) : List Ctr := [c_slices_Index_Lint_int N]
def p_slices_Contains_Lint_int : Pl := .z
def r_slices_Contains_Lint_int : PS := ⟨[(4, .h .b)], [], [.b]⟩
noncomputable def m_slices_Contains_Lint_int (N : Nat) : (List Int) × Int → Option (Bool) := exF T ct_slices_Contains_Lint_int N (bodyOf Try.f27) 9 p_slices_Contains_Lint_int [.h (.sl (.i .i64)), .h (.i .i64)] r_slices_Contains_Lint_int
noncomputable def c_slices_Contains_Lint_int (N : Nat) : Ctr := ⟨27, [.h (.sl (.i .i64)), .h (.i .i64)], r_slices_Contains_Lint_int.c, m_slices_Contains_Lint_int N, fun y => resG T (mkPS 9 r_slices_Contains_Lint_int y) Try.f27.results.toList, false, fun y => keepH' [] (mkPS 9 r_slices_Contains_Lint_int y).h⟩
theorem m_slices_Contains_Lint_int_eq (N : Nat) (s : (List Int)) (v : Int) : m_slices_Contains_Lint_int (N + 1) (s, v) = obind (m_slices_Index_Lint_int N (s, v)) fun z1 =>
  some (decide ((0 : Int) ≤ z1)) := by kernel_rfl
theorem c_slices_Contains_Lint_int_ok (N : Nat) : (c_slices_Contains_Lint_int N).ok Try.prog := exF_ok (T := T) (CT := ct_slices_Contains_Lint_int) (N := N) (fun M => ⟨tOk, (ctAll_cons (c_slices_Index_Lint_int_ok M) ctAll_nil), mixed⟩) Try.func27 (by kernel_rfl) (by kernel_rfl) p_slices_Contains_Lint_int [.h (.sl (.i .i64)), .h (.i .i64)] r_slices_Contains_Lint_int false [] (by kernel_rfl) (fun y => by kernel_rfl) (fun _ => rfl) (m_slices_Contains_Lint_int N) (fun x => by kernel_rfl)
/-! archipelago/pool.Good -/
noncomputable def ct_pool_Good (N : Nat) : List Ctr := [c_pool_Right N, c_slices_Contains_Lint_int N]
def p_pool_Good : Pl := .z
def r_pool_Good : PS := ⟨[(4, .h .b)], [], [.b]⟩
noncomputable def m_pool_Good (N : Nat) : (List Int) × (List Int) × Int × Int → Option (Bool) := exF T ct_pool_Good N (bodyOf Try.f18) 39 p_pool_Good [.ag [(.sl (.i .i64)), (.sl (.i .i64))], .ag [(.i .i64), (.i .i64)]] r_pool_Good
noncomputable def c_pool_Good (N : Nat) : Ctr := ⟨18, [.ag [(.sl (.i .i64)), (.sl (.i .i64))], .ag [(.i .i64), (.i .i64)]], r_pool_Good.c, m_pool_Good N, fun y => resG T (mkPS 39 r_pool_Good y) Try.f18.results.toList, false, fun y => keepH' [] (mkPS 39 r_pool_Good y).h⟩
theorem m_pool_Good_eq (N : Nat) (p : (List Int)) (p2 : (List Int)) (h : Int) (h2 : Int) : m_pool_Good (N + 1) (p, p2, h, h2) = obind (m_pool_Right N (p, p2)) fun z1 =>
  cond z1
   (cond (decide ((0 : Int) ≤ h))
     (cond (decide (h < (((List.length p) : Nat) : Int)))
       (obind (nthI p h) fun z2 =>
        cond (decide (z2 = h2))
         (obind (m_slices_Contains_Lint_int N (p2, h)) fun z3 =>
          some (!z3))
         (some false))
       (some false))
     (some false))
   (some false) := by kernel_rfl
theorem c_pool_Good_ok (N : Nat) : (c_pool_Good N).ok Try.prog := exF_ok (T := T) (CT := ct_pool_Good) (N := N) (fun M => ⟨tOk, (ctAll_cons (c_pool_Right_ok M) (ctAll_cons (c_slices_Contains_Lint_int_ok M) ctAll_nil)), mixed⟩) Try.func18 (by kernel_rfl) (by kernel_rfl) p_pool_Good [.ag [(.sl (.i .i64)), (.sl (.i .i64))], .ag [(.i .i64), (.i .i64)]] r_pool_Good false [] (by kernel_rfl) (fun y => by kernel_rfl) (fun _ => rfl) (m_pool_Good N) (fun x => by kernel_rfl)
/-! archipelago/pool.Give -/
noncomputable def ct_pool_Give (N : Nat) : List Ctr := [c_pool_Right N, c_pool_Good N, c_slices_Clip_Lint_int N]
def p_pool_Give : Pl := .z
def r_pool_Give : PS := ⟨[(4, .k (.pt 900 0)), (5, .h (.i .i64))], [(900, .box 24 [.h (.sl (.i .i64)), .h (.sl (.i .i64))])], [(.i .i64), (.sl (.i .i64)), (.sl (.i .i64))]⟩
noncomputable def m_pool_Give (N : Nat) : (List Int) × (List Int) × Int × Int → Option (Int × (List Int) × (List Int)) := exF T ct_pool_Give N (bodyOf Try.f11) 24 p_pool_Give [.ag [(.sl (.i .i64)), (.sl (.i .i64))], .ag [(.i .i64), (.i .i64)]] r_pool_Give
noncomputable def c_pool_Give (N : Nat) : Ctr := ⟨11, [.ag [(.sl (.i .i64)), (.sl (.i .i64))], .ag [(.i .i64), (.i .i64)]], r_pool_Give.c, m_pool_Give N, fun y => resG T (mkPS 24 r_pool_Give y) Try.f11.results.toList, false, fun y => keepH' [] (mkPS 24 r_pool_Give y).h⟩
theorem m_pool_Give_eq (N : Nat) (p : (List Int)) (p2 : (List Int)) (h : Int) (h2 : Int) : m_pool_Give (N + 1) (p, p2, h, h2) = obind (m_pool_Right N (p, p2)) fun z1 =>
  cond (!z1)
   (some ((1 : Int), (p, p2)))
   (obind (m_pool_Good N (p, (p2, (h, h2)))) fun z2 =>
    cond (!z2)
     (some ((3 : Int), (p, p2)))
     (obind (m_slices_Clip_Lint_int N p2) fun z3 =>
      obind (appI (8 : Nat) z3 [h]) fun z4 =>
      some ((0 : Int), (p, z4)))) := by kernel_rfl
theorem c_pool_Give_ok (N : Nat) : (c_pool_Give N).ok Try.prog := exF_ok (T := T) (CT := ct_pool_Give) (N := N) (fun M => ⟨tOk, (ctAll_cons (c_pool_Right_ok M) (ctAll_cons (c_pool_Good_ok M) (ctAll_cons (c_slices_Clip_Lint_int_ok M) ctAll_nil))), mixed⟩) Try.func11 (by kernel_rfl) (by kernel_rfl) p_pool_Give [.ag [(.sl (.i .i64)), (.sl (.i .i64))], .ag [(.i .i64), (.i .i64)]] r_pool_Give false [] (by kernel_rfl) (fun y => by kernel_rfl) (fun _ => rfl) (m_pool_Give N) (fun x => by kernel_rfl)
/-! archipelago/pool.Taken -/
noncomputable def ct_pool_Taken (N : Nat) : List Ctr := [c_pool_Right N, c_slices_Contains_Lint_int N]
def i_pool_Taken_1 : PS := ⟨[(1, .k (.pt 900 0)), (3, .k (.ow 901)), (10, .h (.i .i64)), (11, .h (.i .i64))], [(900, .box 24 [.h (.sl (.i .i64)), .h (.sl (.i .i64))]), (901, .arr 3 (.i .i64) true)], [(.i .i64), (.i .i64), (.sl (.i .i64)), (.sl (.i .i64)), (.sl (.i .i64))]⟩
def o_pool_Taken_1 : List (Exit × PS) := [((.exit 0), ⟨[(3, .k (.ow 900))], [(900, .arr 3 (.i .i64) true)], [(.sl (.i .i64))]⟩)]
def p_pool_Taken_1 : Pl := .z
noncomputable def l_pool_Taken_1 (N : Nat) : Nat → Int × Int × (List Int) × (List Int) × (List Int) → Option ((List Int)) := loopF (exC T (ct_pool_Taken N) N (codeAt [1, 1, 1, 0, 1, 0, 0] (bodyOf Try.f21))) 25 i_pool_Taken_1 o_pool_Taken_1 p_pool_Taken_1
def p_pool_Taken : Pl := (.n .z (.n .z (.n .z (.n (.n .z (.n (.loop i_pool_Taken_1 o_pool_Taken_1 p_pool_Taken_1) .z)) .z))))
def r_pool_Taken : PS := ⟨[(2, .k (.ow 900))], [(900, .arr 3 (.i .i64) true)], [(.sl (.i .i64))]⟩
noncomputable def m_pool_Taken (N : Nat) : (List Int) × (List Int) → Option ((List Int)) := exF T ct_pool_Taken N (bodyOf Try.f21) 25 p_pool_Taken [.ag [(.sl (.i .i64)), (.sl (.i .i64))]] r_pool_Taken
noncomputable def c_pool_Taken (N : Nat) : Ctr := ⟨21, [.ag [(.sl (.i .i64)), (.sl (.i .i64))]], r_pool_Taken.c, m_pool_Taken N, fun y => resG T (mkPS 25 r_pool_Taken y) Try.f21.results.toList, true, fun y => keepH' [900] (mkPS 25 r_pool_Taken y).h⟩
theorem l_pool_Taken_1_z (N : Nat) (v : Int × Int × (List Int) × (List Int) × (List Int)) : l_pool_Taken_1 N 0 v = none := by kernel_rfl
theorem l_pool_Taken_1_s (N m : Nat) (v10 : Int) (v11 : Int) (p : (List Int)) (p2 : (List Int)) (l : (List Int)) : l_pool_Taken_1 N (m + 1) (v10, v11, p, p2, l) = cond (decide (v11 < v10))
   (obind (m_slices_Contains_Lint_int N (p2, v11)) fun z1 =>
    cond (!z1)
     (obind (appI (8 : Nat) l [v11]) fun z2 =>
      (l_pool_Taken_1 N m (v10, ((IntKind.wrap .i64 (v11 + (1 : Int))), (p, (p2, z2))))))
     ((l_pool_Taken_1 N m (v10, ((IntKind.wrap .i64 (v11 + (1 : Int))), (p, (p2, l)))))))
   (some l) := by kernel_rfl
theorem m_pool_Taken_eq (N : Nat) (p : (List Int)) (p2 : (List Int)) : m_pool_Taken (N + 1) (p, p2) = obind (m_pool_Right N (p, p2)) fun z1 =>
  cond (!z1)
   (some [])
   (obind (l_pool_Taken_1 N N ((((List.length p) : Nat) : Int), ((0 : Int), (p, (p2, []))))) fun z2 =>
    some z2) := by kernel_rfl
theorem c_pool_Taken_ok (N : Nat) : (c_pool_Taken N).ok Try.prog := exF_ok (T := T) (CT := ct_pool_Taken) (N := N) (fun M => ⟨tOk, (ctAll_cons (c_pool_Right_ok M) (ctAll_cons (c_slices_Contains_Lint_int_ok M) ctAll_nil)), mixed⟩) Try.func21 (by kernel_rfl) (by kernel_rfl) p_pool_Taken [.ag [(.sl (.i .i64)), (.sl (.i .i64))]] r_pool_Taken true [900] (by kernel_rfl) (fun y => by kernel_rfl) (fun h => by cases h) (m_pool_Taken N) (fun x => by kernel_rfl)
/-! archipelago/archipelagoref01.Ints -/
noncomputable def ct_ref01_Ints (N : Nat) : List Ctr := []
def i_ref01_Ints_1 : PS := ⟨[(0, .h (.sl (.i .i64))), (1, .h (.sl (.i .i64))), (5, .h (.i .i64))], [], [(.sl (.i .i64)), (.sl (.i .i64)), (.i .i64)]⟩
def o_ref01_Ints_1 : List (Exit × PS) := [((.exit 0), ⟨[], [], []⟩), (.ret, ⟨[(4, .h .b)], [], [.b]⟩)]
def p_ref01_Ints_1 : Pl := .z
noncomputable def l_ref01_Ints_1 (N : Nat) : Nat → (List Int) × (List Int) × Int → Option ((Unit) ⊕ (Bool)) := loopF (exC T (ct_ref01_Ints N) N (codeAt [1, 1, 0, 1, 0, 0] (bodyOf Try.f20))) 26 i_ref01_Ints_1 o_ref01_Ints_1 p_ref01_Ints_1
def p_ref01_Ints : Pl := (.n .z (.n .z (.n (.n .z (.n (.loop i_ref01_Ints_1 o_ref01_Ints_1 p_ref01_Ints_1) .z)) .z)))
def r_ref01_Ints : PS := ⟨[(4, .h .b)], [], [.b]⟩
noncomputable def m_ref01_Ints (N : Nat) : (List Int) × (List Int) → Option (Bool) := exF T ct_ref01_Ints N (bodyOf Try.f20) 26 p_ref01_Ints [.h (.sl (.i .i64)), .h (.sl (.i .i64))] r_ref01_Ints
noncomputable def c_ref01_Ints (N : Nat) : Ctr := ⟨20, [.h (.sl (.i .i64)), .h (.sl (.i .i64))], r_ref01_Ints.c, m_ref01_Ints N, fun y => resG T (mkPS 26 r_ref01_Ints y) Try.f20.results.toList, false, fun y => keepH' [] (mkPS 26 r_ref01_Ints y).h⟩
theorem l_ref01_Ints_1_z (N : Nat) (v : (List Int) × (List Int) × Int) : l_ref01_Ints_1 N 0 v = none := by kernel_rfl
theorem l_ref01_Ints_1_s (N m : Nat) (a : (List Int)) (b : (List Int)) (i : Int) : l_ref01_Ints_1 N (m + 1) (a, b, i) = cond (decide (i < (((List.length a) : Nat) : Int)))
   (obind (nthI a i) fun z1 =>
    obind (nthI b i) fun z2 =>
    cond (!(decide (z1 = z2)))
     (some (.inr false))
     ((l_ref01_Ints_1 N m (a, (b, (IntKind.wrap .i64 (i + (1 : Int))))))))
   (some (.inl ())) := by kernel_rfl
theorem m_ref01_Ints_eq (N : Nat) (a : (List Int)) (b : (List Int)) : m_ref01_Ints (N + 1) (a, b) = cond (!(decide ((((List.length a) : Nat) : Int) = (((List.length b) : Nat) : Int))))
   (some false)
   (obind (l_ref01_Ints_1 N N (a, (b, (0 : Int)))) fun z1 =>
    (match z1 with
    | .inl zy2 => some true
    | .inr zy3 => some zy3)) := by kernel_rfl
theorem c_ref01_Ints_ok (N : Nat) : (c_ref01_Ints N).ok Try.prog := exF_ok (T := T) (CT := ct_ref01_Ints) (N := N) (fun M => ⟨tOk, ctAll_nil, mixed⟩) Try.func20 (by kernel_rfl) (by kernel_rfl) p_ref01_Ints [.h (.sl (.i .i64)), .h (.sl (.i .i64))] r_ref01_Ints false [] (by kernel_rfl) (fun y => by kernel_rfl) (fun _ => rfl) (m_ref01_Ints N) (fun x => by kernel_rfl)
/-! archipelago/archipelagolaw02.alive -/
noncomputable def ct_law02_alive (N : Nat) : List Ctr := [c_pool_Make N, c_pool_Take N, c_pool_Give N, c_pool_Right N, c_pool_Good N, c_pool_Taken N, c_ref01_Ints N]
def p_law02_alive : Pl := .z
def r_law02_alive : PS := ⟨[(0, .h .b)], [], [.b]⟩
noncomputable def m_law02_alive (N : Nat) : Unit → Option (Bool) := exF T ct_law02_alive N (bodyOf Try.f7) 119 p_law02_alive [] r_law02_alive
noncomputable def c_law02_alive (N : Nat) : Ctr := ⟨7, [], r_law02_alive.c, m_law02_alive N, fun y => resG T (mkPS 119 r_law02_alive y) Try.f7.results.toList, false, fun y => keepH' [] (mkPS 119 r_law02_alive y).h⟩
theorem m_law02_alive_eq (N : Nat) : m_law02_alive (N + 1) () = obind (m_pool_Make N (2 : Int)) fun z1 =>
  obind (m_pool_Take N (z1.2.1, z1.2.2)) fun z2 =>
  obind (m_pool_Take N (z2.2.1, z2.2.2.1)) fun z3 =>
  obind (m_pool_Take N (z3.2.1, z3.2.2.1)) fun z4 =>
  obind (m_pool_Give N (z3.2.1, (z3.2.2.1, (z2.2.2.2.1, z2.2.2.2.2)))) fun z5 =>
  obind (m_pool_Take N (z5.2.1, z5.2.2)) fun z6 =>
  obind (m_pool_Give N (z6.2.1, (z6.2.2.1, (z2.2.2.2.1, z2.2.2.2.2)))) fun z7 =>
  cond (decide (z1.1 = (0 : Int)))
   (cond (decide (z2.1 = (0 : Int)))
     (cond (decide (z3.1 = (0 : Int)))
       (cond (decide (z4.1 = (2 : Int)))
         (cond (decide (z5.1 = (0 : Int)))
           (cond (decide (z6.1 = (0 : Int)))
             (cond (decide (z7.1 = (3 : Int)))
               (cond ((decide (z2.2.2.2.1 = (0 : Int))) && (decide (z2.2.2.2.2 = (1 : Int))))
                 (cond ((decide (z3.2.2.2.1 = (1 : Int))) && (decide (z3.2.2.2.2 = (1 : Int))))
                   (cond ((decide (z6.2.2.2.1 = (0 : Int))) && (decide (z6.2.2.2.2 = (2 : Int))))
                     (obind (m_pool_Right N (z6.2.1, z6.2.2.1)) fun z8 =>
                      cond z8
                       (obind (m_pool_Good N (z6.2.1, (z6.2.2.1, (z6.2.2.2.1, z6.2.2.2.2)))) fun z9 =>
                        cond z9
                         (obind (m_pool_Good N (z5.2.1, (z5.2.2, (z2.2.2.2.1, z2.2.2.2.2)))) fun z10 =>
                          cond (!z10)
                           (obind (m_pool_Taken N (z5.2.1, z5.2.2)) fun z11 =>
                            obind (m_ref01_Ints N (z11, [(1 : Int)])) fun z12 =>
                            some z12)
                           (some false))
                         (some false))
                       (some false))
                     (some false))
                   (some false))
                 (some false))
               (some false))
             (some false))
           (some false))
         (some false))
       (some false))
     (some false))
   (some false) := by kernel_rfl
theorem c_law02_alive_ok (N : Nat) : (c_law02_alive N).ok Try.prog := exF_ok (T := T) (CT := ct_law02_alive) (N := N) (fun M => ⟨tOk, (ctAll_cons (c_pool_Make_ok M) (ctAll_cons (c_pool_Take_ok M) (ctAll_cons (c_pool_Give_ok M) (ctAll_cons (c_pool_Right_ok M) (ctAll_cons (c_pool_Good_ok M) (ctAll_cons (c_pool_Taken_ok M) (ctAll_cons (c_ref01_Ints_ok M) ctAll_nil))))))), mixed⟩) Try.func7 (by kernel_rfl) (by kernel_rfl) p_law02_alive [] r_law02_alive false [] (by kernel_rfl) (fun y => by kernel_rfl) (fun _ => rfl) (m_law02_alive N) (fun x => by kernel_rfl)
/-! archipelago/archipelagoref02.Great -/
noncomputable def ct_ref02_Great (N : Nat) : List Ctr := []
def p_ref02_Great : Pl := .z
def r_ref02_Great : PS := ⟨[(2, .h .b)], [], [.b]⟩
noncomputable def m_ref02_Great (N : Nat) : (List Int) × (List Int) → Option (Bool) := exF T ct_ref02_Great N (bodyOf Try.f8) 13 p_ref02_Great [.ag [(.sl (.i .i64)), (.sl (.i .i64))]] r_ref02_Great
noncomputable def c_ref02_Great (N : Nat) : Ctr := ⟨8, [.ag [(.sl (.i .i64)), (.sl (.i .i64))]], r_ref02_Great.c, m_ref02_Great N, fun y => resG T (mkPS 13 r_ref02_Great y) Try.f8.results.toList, false, fun y => keepH' [] (mkPS 13 r_ref02_Great y).h⟩
theorem m_ref02_Great_eq (N : Nat) (p : (List Int)) (p2 : (List Int)) : m_ref02_Great (N + 1) (p, p2) = cond (decide ((300 : Int) < (((List.length p) : Nat) : Int)))
   (some true)
   (some (decide ((300 : Int) < (((List.length p2) : Nat) : Int)))) := by kernel_rfl
theorem c_ref02_Great_ok (N : Nat) : (c_ref02_Great N).ok Try.prog := exF_ok (T := T) (CT := ct_ref02_Great) (N := N) (fun M => ⟨tOk, ctAll_nil, mixed⟩) Try.func8 (by kernel_rfl) (by kernel_rfl) p_ref02_Great [.ag [(.sl (.i .i64)), (.sl (.i .i64))]] r_ref02_Great false [] (by kernel_rfl) (fun y => by kernel_rfl) (fun _ => rfl) (m_ref02_Great N) (fun x => by kernel_rfl)
/-! archipelago/archipelagoref02.Right -/
noncomputable def ct_ref02_Right (N : Nat) : List Ctr := []
def i_ref02_Right_2 : PS := ⟨[(1, .k (.pt 900 0)), (3, .h (.i .i64)), (5, .k (.ow 901)), (6, .h (.i .i64))], [(900, .box 24 [.h (.sl (.i .i64)), .h (.sl (.i .i64))]), (901, .arr 4 .b true)], [(.i .i64), (.i .i64), (.sl (.i .i64)), (.sl (.i .i64)), (.sl .b)]⟩
def o_ref02_Right_2 : List (Exit × PS) := [((.exit 2), ⟨[], [], []⟩), (.ret, ⟨[(2, .h .b)], [], [.b]⟩)]
def p_ref02_Right_2 : Pl := .z
noncomputable def l_ref02_Right_2 (N : Nat) : Nat → Int × Int × (List Int) × (List Int) × (List Bool) → Option ((Unit) ⊕ (Bool)) := loopF (exC T (ct_ref02_Right N) N (codeAt [1, 1, 1, 1, 1, 0, 1, 0, 0] (bodyOf Try.f17))) 73 i_ref02_Right_2 o_ref02_Right_2 p_ref02_Right_2
def i_ref02_Right_1 : PS := ⟨[(1, .k (.pt 900 0)), (3, .h (.i .i64)), (4, .h (.i .i64))], [(900, .box 24 [.h (.sl (.i .i64)), .h (.sl (.i .i64))])], [(.i .i64), (.i .i64), (.sl (.i .i64)), (.sl (.i .i64))]⟩
def o_ref02_Right_1 : List (Exit × PS) := [((.exit 0), ⟨[(1, .k (.pt 900 0)), (3, .h (.i .i64))], [(900, .box 24 [.h (.sl (.i .i64)), .h (.sl (.i .i64))])], [(.i .i64), (.sl (.i .i64)), (.sl (.i .i64))]⟩), (.ret, ⟨[(2, .h .b)], [], [.b]⟩)]
def p_ref02_Right_1 : Pl := .z
noncomputable def l_ref02_Right_1 (N : Nat) : Nat → Int × Int × (List Int) × (List Int) → Option ((Int × (List Int) × (List Int)) ⊕ (Bool)) := loopF (exC T (ct_ref02_Right N) N (codeAt [1, 1, 1, 0, 1, 0, 0] (bodyOf Try.f17))) 73 i_ref02_Right_1 o_ref02_Right_1 p_ref02_Right_1
def p_ref02_Right : Pl := (.n .z (.n .z (.n .z (.n (.n .z (.n (.loop i_ref02_Right_1 o_ref02_Right_1 p_ref02_Right_1) .z)) (.n .z (.n (.n .z (.n (.loop i_ref02_Right_2 o_ref02_Right_2 p_ref02_Right_2) .z)) .z))))))
def r_ref02_Right : PS := ⟨[(2, .h .b)], [], [.b]⟩
noncomputable def m_ref02_Right (N : Nat) : (List Int) × (List Int) → Option (Bool) := exF T ct_ref02_Right N (bodyOf Try.f17) 73 p_ref02_Right [.ag [(.sl (.i .i64)), (.sl (.i .i64))]] r_ref02_Right
noncomputable def c_ref02_Right (N : Nat) : Ctr := ⟨17, [.ag [(.sl (.i .i64)), (.sl (.i .i64))]], r_ref02_Right.c, m_ref02_Right N, fun y => resG T (mkPS 73 r_ref02_Right y) Try.f17.results.toList, false, fun y => keepH' [] (mkPS 73 r_ref02_Right y).h⟩
theorem l_ref02_Right_2_z (N : Nat) (v : Int × Int × (List Int) × (List Int) × (List Bool)) : l_ref02_Right_2 N 0 v = none := by kernel_rfl
theorem l_ref02_Right_2_s (N m : Nat) (n : Int) (i : Int) (p : (List Int)) (p2 : (List Int)) (met : (List Bool)) : l_ref02_Right_2 N (m + 1) (n, i, p, p2, met) = cond (decide (i < (((List.length p2) : Nat) : Int)))
   (obind (nthI p2 i) fun z1 =>
    cond (decide (z1 < (0 : Int)))
     (some (.inr false))
     (cond (decide (n ≤ z1))
       (some (.inr false))
       (obind (nthI met z1) fun z2 =>
        obind (nthI met z1) fun z3 =>
        cond z3
         (some (.inr false))
         (obind (nthI met z1) fun z4 =>
          obind (nthI met z1) fun z5 =>
          (l_ref02_Right_2 N m (n, ((IntKind.wrap .i64 (i + (1 : Int))), (p, (p2, (List.set met (Int.toNat z1) true))))))))))
   (some (.inl ())) := by kernel_rfl
theorem l_ref02_Right_1_z (N : Nat) (v : Int × Int × (List Int) × (List Int)) : l_ref02_Right_1 N 0 v = none := by kernel_rfl
theorem l_ref02_Right_1_s (N m : Nat) (n : Int) (i : Int) (p : (List Int)) (p2 : (List Int)) : l_ref02_Right_1 N (m + 1) (n, i, p, p2) = cond (decide (i < n))
   (obind (nthI p i) fun z1 =>
    cond (decide (z1 < (0 : Int)))
     (some (.inr false))
     (obind (nthI p i) fun z2 =>
      cond (decide ((1073741824 : Int) < z2))
       (some (.inr false))
       ((l_ref02_Right_1 N m (n, ((IntKind.wrap .i64 (i + (1 : Int))), (p, p2)))))))
   (some (.inl (n, (p, p2)))) := by kernel_rfl
theorem m_ref02_Right_eq (N : Nat) (p : (List Int)) (p2 : (List Int)) : m_ref02_Right (N + 1) (p, p2) = cond (decide ((((List.length p) : Nat) : Int) < (1 : Int)))
   (some false)
   (cond (decide ((1000 : Int) < (((List.length p) : Nat) : Int)))
     (some false)
     (cond (decide ((((List.length p) : Nat) : Int) < (((List.length p2) : Nat) : Int)))
       (some false)
       (obind (l_ref02_Right_1 N N ((((List.length p) : Nat) : Int), ((0 : Int), (p, p2)))) fun z1 =>
        (match z1 with
        | .inl zy2 => obind (makI zy2.1 (1 : Nat)) fun z3 =>
          obind (l_ref02_Right_2 N N (zy2.1, ((0 : Int), (zy2.2.1, (zy2.2.2, (List.replicate z3 false)))))) fun z4 =>
          (match z4 with
          | .inl zy5 => some true
          | .inr zy6 => some zy6)
        | .inr zy7 => some zy7)))) := by kernel_rfl
theorem c_ref02_Right_ok (N : Nat) : (c_ref02_Right N).ok Try.prog := exF_ok (T := T) (CT := ct_ref02_Right) (N := N) (fun M => ⟨tOk, ctAll_nil, mixed⟩) Try.func17 (by kernel_rfl) (by kernel_rfl) p_ref02_Right [.ag [(.sl (.i .i64)), (.sl (.i .i64))]] r_ref02_Right false [] (by kernel_rfl) (fun y => by kernel_rfl) (fun _ => rfl) (m_ref02_Right N) (fun x => by kernel_rfl)
/-! archipelago/archipelagoref02.Take -/
noncomputable def ct_ref02_Take (N : Nat) : List Ctr := [c_ref02_Right N]
def p_ref02_Take : Pl := .z
def r_ref02_Take : PS := ⟨[(2, .k (.pt 900 0)), (3, .k (.pt 901 0)), (4, .h (.i .i64))], [(900, .box 24 [.h (.sl (.i .i64)), .h (.sl (.i .i64))]), (901, .box 26 [.h (.i .i64), .h (.i .i64)])], [(.i .i64), (.sl (.i .i64)), (.sl (.i .i64)), (.i .i64), (.i .i64)]⟩
noncomputable def m_ref02_Take (N : Nat) : (List Int) × (List Int) → Option (Int × (List Int) × (List Int) × Int × Int) := exF T ct_ref02_Take N (bodyOf Try.f10) 68 p_ref02_Take [.ag [(.sl (.i .i64)), (.sl (.i .i64))]] r_ref02_Take
noncomputable def c_ref02_Take (N : Nat) : Ctr := ⟨10, [.ag [(.sl (.i .i64)), (.sl (.i .i64))]], r_ref02_Take.c, m_ref02_Take N, fun y => resG T (mkPS 68 r_ref02_Take y) Try.f10.results.toList, false, fun y => keepH' [] (mkPS 68 r_ref02_Take y).h⟩
theorem m_ref02_Take_eq (N : Nat) (p : (List Int)) (p2 : (List Int)) : m_ref02_Take (N + 1) (p, p2) = obind (m_ref02_Right N (p, p2)) fun z1 =>
  cond (!z1)
   (some ((1 : Int), (p, (p2, ((0 : Int), (0 : Int))))))
   (cond (decide ((((List.length p2) : Nat) : Int) = (0 : Int)))
     (some ((2 : Int), (p, (p2, ((0 : Int), (0 : Int))))))
     (obind (nthI p2 (IntKind.wrap .i64 ((((List.length p2) : Nat) : Int) - (1 : Int)))) fun z2 =>
      obind (nthI p z2) fun z3 =>
      cond (decide (z3 = (1073741824 : Int)))
       (some ((2 : Int), (p, (p2, ((0 : Int), (0 : Int))))))
       (obind (nthI p2 (IntKind.wrap .i64 ((((List.length p2) : Nat) : Int) - (1 : Int)))) fun z4 =>
        obind (appI (8 : Nat) [] p) fun z5 =>
        obind (subI p2 (0 : Int) (IntKind.wrap .i64 ((((List.length p2) : Nat) : Int) - (1 : Int)))) fun z6 =>
        obind (appI (8 : Nat) [] z6) fun z7 =>
        obind (nthI z5 z4) fun z8 =>
        obind (nthI z5 z4) fun z9 =>
        obind (nthI z5 z4) fun z10 =>
        obind (nthI z5 z4) fun z11 =>
        obind (nthI (List.set z5 (Int.toNat z4) (IntKind.wrap .i64 (z9 + (1 : Int)))) z4) fun z12 =>
        obind (nthI (List.set z5 (Int.toNat z4) (IntKind.wrap .i64 (z9 + (1 : Int)))) z4) fun z13 =>
        some ((0 : Int), ((List.set z5 (Int.toNat z4) (IntKind.wrap .i64 (z9 + (1 : Int)))), (z7, (z4, z13))))))) := by kernel_rfl
theorem c_ref02_Take_ok (N : Nat) : (c_ref02_Take N).ok Try.prog := exF_ok (T := T) (CT := ct_ref02_Take) (N := N) (fun M => ⟨tOk, (ctAll_cons (c_ref02_Right_ok M) ctAll_nil), mixed⟩) Try.func10 (by kernel_rfl) (by kernel_rfl) p_ref02_Take [.ag [(.sl (.i .i64)), (.sl (.i .i64))]] r_ref02_Take false [] (by kernel_rfl) (fun y => by kernel_rfl) (fun _ => rfl) (m_ref02_Take N) (fun x => by kernel_rfl)
/-! archipelago/archipelagoref02.Good -/
noncomputable def ct_ref02_Good (N : Nat) : List Ctr := [c_ref02_Right N]
def i_ref02_Good_1 : PS := ⟨[(2, .k (.pt 900 0)), (3, .k (.pt 901 0)), (5, .h (.i .i64))], [(900, .box 24 [.h (.sl (.i .i64)), .h (.sl (.i .i64))]), (901, .box 26 [.h (.i .i64), .h (.i .i64)])], [(.i .i64), (.sl (.i .i64)), (.sl (.i .i64)), (.i .i64), (.i .i64)]⟩
def o_ref02_Good_1 : List (Exit × PS) := [((.exit 0), ⟨[], [], []⟩), (.ret, ⟨[(4, .h .b)], [], [.b]⟩)]
def p_ref02_Good_1 : Pl := .z
noncomputable def l_ref02_Good_1 (N : Nat) : Nat → Int × (List Int) × (List Int) × Int × Int → Option ((Unit) ⊕ (Bool)) := loopF (exC T (ct_ref02_Good N) N (codeAt [1, 1, 0, 1, 0, 0] (bodyOf Try.f19))) 48 i_ref02_Good_1 o_ref02_Good_1 p_ref02_Good_1
def p_ref02_Good : Pl := (.n .z (.n .z (.n (.n .z (.n (.loop i_ref02_Good_1 o_ref02_Good_1 p_ref02_Good_1) .z)) .z)))
def r_ref02_Good : PS := ⟨[(4, .h .b)], [], [.b]⟩
noncomputable def m_ref02_Good (N : Nat) : (List Int) × (List Int) × Int × Int → Option (Bool) := exF T ct_ref02_Good N (bodyOf Try.f19) 48 p_ref02_Good [.ag [(.sl (.i .i64)), (.sl (.i .i64))], .ag [(.i .i64), (.i .i64)]] r_ref02_Good
noncomputable def c_ref02_Good (N : Nat) : Ctr := ⟨19, [.ag [(.sl (.i .i64)), (.sl (.i .i64))], .ag [(.i .i64), (.i .i64)]], r_ref02_Good.c, m_ref02_Good N, fun y => resG T (mkPS 48 r_ref02_Good y) Try.f19.results.toList, false, fun y => keepH' [] (mkPS 48 r_ref02_Good y).h⟩
theorem l_ref02_Good_1_z (N : Nat) (v : Int × (List Int) × (List Int) × Int × Int) : l_ref02_Good_1 N 0 v = none := by kernel_rfl
theorem l_ref02_Good_1_s (N m : Nat) (k : Int) (p : (List Int)) (p2 : (List Int)) (h : Int) (h2 : Int) : l_ref02_Good_1 N (m + 1) (k, p, p2, h, h2) = cond (decide (k < (((List.length p2) : Nat) : Int)))
   (obind (nthI p2 k) fun z1 =>
    cond (decide (z1 = h))
     (some (.inr false))
     ((l_ref02_Good_1 N m ((IntKind.wrap .i64 (k + (1 : Int))), (p, (p2, (h, h2)))))))
   (some (.inl ())) := by kernel_rfl
theorem m_ref02_Good_eq (N : Nat) (p : (List Int)) (p2 : (List Int)) (h : Int) (h2 : Int) : m_ref02_Good (N + 1) (p, p2, h, h2) = obind (m_ref02_Right N (p, p2)) fun z1 =>
  cond (!z1)
   (some false)
   (cond (decide (h < (0 : Int)))
     (some false)
     (cond (decide ((((List.length p) : Nat) : Int) ≤ h))
       (some false)
       (obind (nthI p h) fun z2 =>
        cond (!(decide (z2 = h2)))
         (some false)
         (obind (l_ref02_Good_1 N N ((0 : Int), (p, (p2, (h, h2))))) fun z3 =>
          (match z3 with
          | .inl zy4 => some true
          | .inr zy5 => some zy5))))) := by kernel_rfl
theorem c_ref02_Good_ok (N : Nat) : (c_ref02_Good N).ok Try.prog := exF_ok (T := T) (CT := ct_ref02_Good) (N := N) (fun M => ⟨tOk, (ctAll_cons (c_ref02_Right_ok M) ctAll_nil), mixed⟩) Try.func19 (by kernel_rfl) (by kernel_rfl) p_ref02_Good [.ag [(.sl (.i .i64)), (.sl (.i .i64))], .ag [(.i .i64), (.i .i64)]] r_ref02_Good false [] (by kernel_rfl) (fun y => by kernel_rfl) (fun _ => rfl) (m_ref02_Good N) (fun x => by kernel_rfl)
/-! archipelago/archipelagoref02.Give -/
noncomputable def ct_ref02_Give (N : Nat) : List Ctr := [c_ref02_Right N, c_ref02_Good N]
def p_ref02_Give : Pl := .z
def r_ref02_Give : PS := ⟨[(4, .k (.pt 900 0)), (5, .h (.i .i64))], [(900, .box 24 [.h (.sl (.i .i64)), .h (.sl (.i .i64))])], [(.i .i64), (.sl (.i .i64)), (.sl (.i .i64))]⟩
noncomputable def m_ref02_Give (N : Nat) : (List Int) × (List Int) × Int × Int → Option (Int × (List Int) × (List Int)) := exF T ct_ref02_Give N (bodyOf Try.f12) 28 p_ref02_Give [.ag [(.sl (.i .i64)), (.sl (.i .i64))], .ag [(.i .i64), (.i .i64)]] r_ref02_Give
noncomputable def c_ref02_Give (N : Nat) : Ctr := ⟨12, [.ag [(.sl (.i .i64)), (.sl (.i .i64))], .ag [(.i .i64), (.i .i64)]], r_ref02_Give.c, m_ref02_Give N, fun y => resG T (mkPS 28 r_ref02_Give y) Try.f12.results.toList, false, fun y => keepH' [] (mkPS 28 r_ref02_Give y).h⟩
theorem m_ref02_Give_eq (N : Nat) (p : (List Int)) (p2 : (List Int)) (h : Int) (h2 : Int) : m_ref02_Give (N + 1) (p, p2, h, h2) = obind (m_ref02_Right N (p, p2)) fun z1 =>
  cond (!z1)
   (some ((1 : Int), (p, p2)))
   (obind (m_ref02_Good N (p, (p2, (h, h2)))) fun z2 =>
    cond (!z2)
     (some ((3 : Int), (p, p2)))
     (obind (appI (8 : Nat) [] p2) fun z3 =>
      obind (appI (8 : Nat) z3 [h]) fun z4 =>
      some ((0 : Int), (p, z4)))) := by kernel_rfl
theorem c_ref02_Give_ok (N : Nat) : (c_ref02_Give N).ok Try.prog := exF_ok (T := T) (CT := ct_ref02_Give) (N := N) (fun M => ⟨tOk, (ctAll_cons (c_ref02_Right_ok M) (ctAll_cons (c_ref02_Good_ok M) ctAll_nil)), mixed⟩) Try.func12 (by kernel_rfl) (by kernel_rfl) p_ref02_Give [.ag [(.sl (.i .i64)), (.sl (.i .i64))], .ag [(.i .i64), (.i .i64)]] r_ref02_Give false [] (by kernel_rfl) (fun y => by kernel_rfl) (fun _ => rfl) (m_ref02_Give N) (fun x => by kernel_rfl)
/-! archipelago/archipelagoref02.Make -/
noncomputable def ct_ref02_Make (N : Nat) : List Ctr := []
def i_ref02_Make_1 : PS := ⟨[(2, .k (.pt 900 0)), (4, .k (.pt 901 0)), (5, .h (.i .i64))], [(900, .box 24 [.k .nil, .k .nil]), (901, .box 24 [.k (.ow 902), .k (.ow 903)]), (902, .arr 3 (.i .i64) true), (903, .arr 3 (.i .i64) true)], [(.i .i64), (.sl (.i .i64)), (.sl (.i .i64))]⟩
def o_ref02_Make_1 : List (Exit × PS) := [((.exit 0), ⟨[(2, .k (.pt 900 0)), (4, .k (.pt 901 0))], [(900, .box 24 [.k .nil, .k .nil]), (901, .box 24 [.k (.ow 902), .k (.ow 903)]), (902, .arr 3 (.i .i64) true), (903, .arr 3 (.i .i64) true)], [(.sl (.i .i64)), (.sl (.i .i64))]⟩)]
def p_ref02_Make_1 : Pl := .z
noncomputable def l_ref02_Make_1 (N : Nat) : Nat → Int × (List Int) × (List Int) → Option ((List Int) × (List Int)) := loopF (exC T (ct_ref02_Make N) N (codeAt [1, 1, 1, 0, 1, 0, 0] (bodyOf Try.f14))) 29 i_ref02_Make_1 o_ref02_Make_1 p_ref02_Make_1
def p_ref02_Make : Pl := (.n .z (.n .z (.n .z (.n (.n .z (.n (.loop i_ref02_Make_1 o_ref02_Make_1 p_ref02_Make_1) .z)) .z))))
def r_ref02_Make : PS := ⟨[(2, .k (.pt 900 0)), (3, .h (.i .i64))], [(900, .box 24 [.h (.sl (.i .i64)), .h (.sl (.i .i64))])], [(.i .i64), (.sl (.i .i64)), (.sl (.i .i64))]⟩
noncomputable def m_ref02_Make (N : Nat) : Int → Option (Int × (List Int) × (List Int)) := exF T ct_ref02_Make N (bodyOf Try.f14) 29 p_ref02_Make [.h (.i .i64)] r_ref02_Make
noncomputable def c_ref02_Make (N : Nat) : Ctr := ⟨14, [.h (.i .i64)], r_ref02_Make.c, m_ref02_Make N, fun y => resG T (mkPS 29 r_ref02_Make y) Try.f14.results.toList, false, fun y => keepH' [] (mkPS 29 r_ref02_Make y).h⟩
theorem l_ref02_Make_1_z (N : Nat) (v : Int × (List Int) × (List Int)) : l_ref02_Make_1 N 0 v = none := by kernel_rfl
theorem l_ref02_Make_1_s (N m : Nat) (i : Int) (v902 : (List Int)) (v903 : (List Int)) : l_ref02_Make_1 N (m + 1) (i, v902, v903) = cond (decide ((0 : Int) ≤ i))
   (obind (appI (8 : Nat) v903 [i]) fun z1 =>
    (l_ref02_Make_1 N m ((IntKind.wrap .i64 (i - (1 : Int))), (v902, z1))))
   (some (v902, v903)) := by kernel_rfl
theorem m_ref02_Make_eq (N : Nat) (n : Int) : m_ref02_Make (N + 1) (n) = cond (decide (n < (1 : Int)))
   (some ((1 : Int), ([], [])))
   (cond (decide ((1000 : Int) < n))
     (some ((1 : Int), ([], [])))
     (obind (makI n (8 : Nat)) fun z1 =>
      obind (l_ref02_Make_1 N N ((IntKind.wrap .i64 (n - (1 : Int))), ((List.replicate z1 (0 : Int)), []))) fun z2 =>
      some ((0 : Int), (z2.1, z2.2)))) := by kernel_rfl
theorem c_ref02_Make_ok (N : Nat) : (c_ref02_Make N).ok Try.prog := exF_ok (T := T) (CT := ct_ref02_Make) (N := N) (fun M => ⟨tOk, ctAll_nil, mixed⟩) Try.func14 (by kernel_rfl) (by kernel_rfl) p_ref02_Make [.h (.i .i64)] r_ref02_Make false [] (by kernel_rfl) (fun y => by kernel_rfl) (fun _ => rfl) (m_ref02_Make N) (fun x => by kernel_rfl)
/-! archipelago/archipelagoref02.Same -/
noncomputable def ct_ref02_Same (N : Nat) : List Ctr := [c_ref01_Ints N]
def p_ref02_Same : Pl := .z
def r_ref02_Same : PS := ⟨[(4, .h .b)], [], [.b]⟩
noncomputable def m_ref02_Same (N : Nat) : (List Int) × (List Int) × (List Int) × (List Int) → Option (Bool) := exF T ct_ref02_Same N (bodyOf Try.f15) 17 p_ref02_Same [.ag [(.sl (.i .i64)), (.sl (.i .i64))], .ag [(.sl (.i .i64)), (.sl (.i .i64))]] r_ref02_Same
noncomputable def c_ref02_Same (N : Nat) : Ctr := ⟨15, [.ag [(.sl (.i .i64)), (.sl (.i .i64))], .ag [(.sl (.i .i64)), (.sl (.i .i64))]], r_ref02_Same.c, m_ref02_Same N, fun y => resG T (mkPS 17 r_ref02_Same y) Try.f15.results.toList, false, fun y => keepH' [] (mkPS 17 r_ref02_Same y).h⟩
theorem m_ref02_Same_eq (N : Nat) (a : (List Int)) (a2 : (List Int)) (b : (List Int)) (b2 : (List Int)) : m_ref02_Same (N + 1) (a, a2, b, b2) = obind (m_ref01_Ints N (a, b)) fun z1 =>
  cond z1
   (obind (m_ref01_Ints N (a2, b2)) fun z2 =>
    some z2)
   (some false) := by kernel_rfl
theorem c_ref02_Same_ok (N : Nat) : (c_ref02_Same N).ok Try.prog := exF_ok (T := T) (CT := ct_ref02_Same) (N := N) (fun M => ⟨tOk, (ctAll_cons (c_ref01_Ints_ok M) ctAll_nil), mixed⟩) Try.func15 (by kernel_rfl) (by kernel_rfl) p_ref02_Same [.ag [(.sl (.i .i64)), (.sl (.i .i64))], .ag [(.sl (.i .i64)), (.sl (.i .i64))]] r_ref02_Same false [] (by kernel_rfl) (fun y => by kernel_rfl) (fun _ => rfl) (m_ref02_Same N) (fun x => by kernel_rfl)
/-! archipelago/archipelagoref02.Taken -/
noncomputable def ct_ref02_Taken (N : Nat) : List Ctr := [c_ref02_Right N]
def i_ref02_Taken_2 : PS := ⟨[(1, .k (.pt 900 0)), (3, .k (.ow 901)), (4, .h (.i .i64)), (5, .h .b), (6, .h (.i .i64))], [(900, .box 24 [.h (.sl (.i .i64)), .h (.sl (.i .i64))]), (901, .arr 3 (.i .i64) true)], [(.i .i64), .b, (.i .i64), (.sl (.i .i64)), (.sl (.i .i64)), (.sl (.i .i64))]⟩
def o_ref02_Taken_2 : List (Exit × PS) := [((.exit 2), ⟨[(1, .k (.pt 900 0)), (3, .k (.ow 901)), (4, .h (.i .i64)), (5, .h .b)], [(900, .box 24 [.h (.sl (.i .i64)), .h (.sl (.i .i64))]), (901, .arr 3 (.i .i64) true)], [(.i .i64), .b, (.sl (.i .i64)), (.sl (.i .i64)), (.sl (.i .i64))]⟩)]
def p_ref02_Taken_2 : Pl := .z
noncomputable def l_ref02_Taken_2 (N : Nat) : Nat → Int × Bool × Int × (List Int) × (List Int) × (List Int) → Option (Int × Bool × (List Int) × (List Int) × (List Int)) := loopF (exC T (ct_ref02_Taken N) N (codeAt [1, 1, 1, 0, 1, 0, 0, 1, 0, 0, 1, 0, 1, 0, 0] (bodyOf Try.f22))) 41 i_ref02_Taken_2 o_ref02_Taken_2 p_ref02_Taken_2
def i_ref02_Taken_1 : PS := ⟨[(1, .k (.pt 900 0)), (3, .k (.ow 901)), (4, .h (.i .i64))], [(900, .box 24 [.h (.sl (.i .i64)), .h (.sl (.i .i64))]), (901, .arr 3 (.i .i64) true)], [(.i .i64), (.sl (.i .i64)), (.sl (.i .i64)), (.sl (.i .i64))]⟩
def o_ref02_Taken_1 : List (Exit × PS) := [((.exit 0), ⟨[(3, .k (.ow 900))], [(900, .arr 3 (.i .i64) true)], [(.sl (.i .i64))]⟩)]
def p_ref02_Taken_1 : Pl := (.n .z (.n (.n (.n .z (.n (.n .z (.n (.loop i_ref02_Taken_2 o_ref02_Taken_2 p_ref02_Taken_2) .z)) .z)) .z) .z))
noncomputable def l_ref02_Taken_1 (N : Nat) : Nat → Int × (List Int) × (List Int) × (List Int) → Option ((List Int)) := loopF (exC T (ct_ref02_Taken N) N (codeAt [1, 1, 1, 0, 1, 0, 0] (bodyOf Try.f22))) 41 i_ref02_Taken_1 o_ref02_Taken_1 p_ref02_Taken_1
def p_ref02_Taken : Pl := (.n .z (.n .z (.n .z (.n (.n .z (.n (.loop i_ref02_Taken_1 o_ref02_Taken_1 p_ref02_Taken_1) .z)) .z))))
def r_ref02_Taken : PS := ⟨[(2, .k (.ow 900))], [(900, .arr 3 (.i .i64) true)], [(.sl (.i .i64))]⟩
noncomputable def m_ref02_Taken (N : Nat) : (List Int) × (List Int) → Option ((List Int)) := exF T ct_ref02_Taken N (bodyOf Try.f22) 41 p_ref02_Taken [.ag [(.sl (.i .i64)), (.sl (.i .i64))]] r_ref02_Taken
noncomputable def c_ref02_Taken (N : Nat) : Ctr := ⟨22, [.ag [(.sl (.i .i64)), (.sl (.i .i64))]], r_ref02_Taken.c, m_ref02_Taken N, fun y => resG T (mkPS 41 r_ref02_Taken y) Try.f22.results.toList, true, fun y => keepH' [900] (mkPS 41 r_ref02_Taken y).h⟩
theorem l_ref02_Taken_2_z (N : Nat) (v : Int × Bool × Int × (List Int) × (List Int) × (List Int)) : l_ref02_Taken_2 N 0 v = none := by kernel_rfl
theorem l_ref02_Taken_2_s (N m : Nat) (i : Int) (free : Bool) (k : Int) (p : (List Int)) (p2 : (List Int)) (out : (List Int)) : l_ref02_Taken_2 N (m + 1) (i, free, k, p, p2, out) = cond (decide (k < (((List.length p2) : Nat) : Int)))
   (cond free
     ((l_ref02_Taken_2 N m (i, (true, ((IntKind.wrap .i64 (k + (1 : Int))), (p, (p2, out)))))))
     (obind (nthI p2 k) fun z1 =>
      (l_ref02_Taken_2 N m (i, ((decide (z1 = i)), ((IntKind.wrap .i64 (k + (1 : Int))), (p, (p2, out))))))))
   (some (i, (free, (p, (p2, out))))) := by kernel_rfl
theorem l_ref02_Taken_1_z (N : Nat) (v : Int × (List Int) × (List Int) × (List Int)) : l_ref02_Taken_1 N 0 v = none := by kernel_rfl
theorem l_ref02_Taken_1_s (N m : Nat) (i : Int) (p : (List Int)) (p2 : (List Int)) (out : (List Int)) : l_ref02_Taken_1 N (m + 1) (i, p, p2, out) = cond (decide (i < (((List.length p) : Nat) : Int)))
   (obind (l_ref02_Taken_2 N N (i, (false, ((0 : Int), (p, (p2, out)))))) fun z1 =>
    cond (!z1.2.1)
     (obind (appI (8 : Nat) z1.2.2.2.2 [z1.1]) fun z2 =>
      (l_ref02_Taken_1 N m ((IntKind.wrap .i64 (z1.1 + (1 : Int))), (z1.2.2.1, (z1.2.2.2.1, z2)))))
     ((l_ref02_Taken_1 N m ((IntKind.wrap .i64 (z1.1 + (1 : Int))), (z1.2.2.1, (z1.2.2.2.1, z1.2.2.2.2))))))
   (some out) := by kernel_rfl
theorem m_ref02_Taken_eq (N : Nat) (p : (List Int)) (p2 : (List Int)) : m_ref02_Taken (N + 1) (p, p2) = obind (m_ref02_Right N (p, p2)) fun z1 =>
  cond (!z1)
   (some [])
   (obind (l_ref02_Taken_1 N N ((0 : Int), (p, (p2, [])))) fun z2 =>
    some z2) := by kernel_rfl
theorem c_ref02_Taken_ok (N : Nat) : (c_ref02_Taken N).ok Try.prog := exF_ok (T := T) (CT := ct_ref02_Taken) (N := N) (fun M => ⟨tOk, (ctAll_cons (c_ref02_Right_ok M) ctAll_nil), mixed⟩) Try.func22 (by kernel_rfl) (by kernel_rfl) p_ref02_Taken [.ag [(.sl (.i .i64)), (.sl (.i .i64))]] r_ref02_Taken true [900] (by kernel_rfl) (fun y => by kernel_rfl) (fun h => by cases h) (m_ref02_Taken N) (fun x => by kernel_rfl)
/-! archipelago/archipelagolaw02.PoolAnswers -/
noncomputable def ct_law02_PoolAnswers (N : Nat) : List Ctr := [c_law02_alive N, c_ref02_Great N, c_pool_Take N, c_ref02_Take N, c_pool_Give N, c_ref02_Give N, c_pool_Make N, c_ref02_Make N, c_ref02_Same N, c_pool_Right N, c_ref02_Right N, c_pool_Good N, c_ref02_Good N, c_pool_Taken N, c_ref02_Taken N, c_ref01_Ints N]
def p_law02_PoolAnswers : Pl := .z
def r_law02_PoolAnswers : PS := ⟨[(6, .h .b)], [], [.b]⟩
noncomputable def m_law02_PoolAnswers (N : Nat) : (List Int) × (List Int) × Int × Int × Int → Option (Bool) := exF T ct_law02_PoolAnswers N (bodyOf Try.f3) 115 p_law02_PoolAnswers [.ag [(.sl (.i .i64)), (.sl (.i .i64))], .ag [(.i .i64), (.i .i64)], .h (.i .i64)] r_law02_PoolAnswers
noncomputable def c_law02_PoolAnswers (N : Nat) : Ctr := ⟨3, [.ag [(.sl (.i .i64)), (.sl (.i .i64))], .ag [(.i .i64), (.i .i64)], .h (.i .i64)], r_law02_PoolAnswers.c, m_law02_PoolAnswers N, fun y => resG T (mkPS 115 r_law02_PoolAnswers y) Try.f3.results.toList, false, fun y => keepH' [] (mkPS 115 r_law02_PoolAnswers y).h⟩
theorem m_law02_PoolAnswers_eq (N : Nat) (p : (List Int)) (p2 : (List Int)) (h : Int) (h2 : Int) (n : Int) : m_law02_PoolAnswers (N + 1) (p, p2, h, h2, n) = obind (m_law02_alive N ()) fun z1 =>
  cond (!z1)
   (some false)
   (obind (m_ref02_Great N (p, p2)) fun z2 =>
    cond z2
     (some true)
     (obind (m_pool_Take N (p, p2)) fun z3 =>
      obind (m_ref02_Take N (p, p2)) fun z4 =>
      obind (m_pool_Give N (p, (p2, (h, h2)))) fun z5 =>
      obind (m_ref02_Give N (p, (p2, (h, h2)))) fun z6 =>
      obind (m_pool_Make N n) fun z7 =>
      obind (m_ref02_Make N n) fun z8 =>
      obind (m_ref02_Same N (z3.2.1, (z3.2.2.1, (z4.2.1, z4.2.2.1)))) fun z9 =>
      cond z9
       (cond ((decide (z3.2.2.2.1 = z4.2.2.2.1)) && (decide (z3.2.2.2.2 = z4.2.2.2.2)))
         (cond (decide (z3.1 = z4.1))
           (obind (m_ref02_Same N (z5.2.1, (z5.2.2, (z6.2.1, z6.2.2)))) fun z10 =>
            cond z10
             (cond (decide (z5.1 = z6.1))
               (obind (m_ref02_Same N (z7.2.1, (z7.2.2, (z8.2.1, z8.2.2)))) fun z11 =>
                cond z11
                 (cond (decide (z7.1 = z8.1))
                   (obind (m_pool_Right N (p, p2)) fun z12 =>
                    obind (m_ref02_Right N (p, p2)) fun z13 =>
                    cond (z12 == z13)
                     (obind (m_pool_Good N (p, (p2, (h, h2)))) fun z14 =>
                      obind (m_ref02_Good N (p, (p2, (h, h2)))) fun z15 =>
                      cond (z14 == z15)
                       (obind (m_pool_Taken N (p, p2)) fun z16 =>
                        obind (m_ref02_Taken N (p, p2)) fun z17 =>
                        obind (m_ref01_Ints N (z16, z17)) fun z18 =>
                        some z18)
                       (some false))
                     (some false))
                   (some false))
                 (some false))
               (some false))
             (some false))
           (some false))
         (some false))
       (some false))) := by kernel_rfl
theorem c_law02_PoolAnswers_ok (N : Nat) : (c_law02_PoolAnswers N).ok Try.prog := exF_ok (T := T) (CT := ct_law02_PoolAnswers) (N := N) (fun M => ⟨tOk, (ctAll_cons (c_law02_alive_ok M) (ctAll_cons (c_ref02_Great_ok M) (ctAll_cons (c_pool_Take_ok M) (ctAll_cons (c_ref02_Take_ok M) (ctAll_cons (c_pool_Give_ok M) (ctAll_cons (c_ref02_Give_ok M) (ctAll_cons (c_pool_Make_ok M) (ctAll_cons (c_ref02_Make_ok M) (ctAll_cons (c_ref02_Same_ok M) (ctAll_cons (c_pool_Right_ok M) (ctAll_cons (c_ref02_Right_ok M) (ctAll_cons (c_pool_Good_ok M) (ctAll_cons (c_ref02_Good_ok M) (ctAll_cons (c_pool_Taken_ok M) (ctAll_cons (c_ref02_Taken_ok M) (ctAll_cons (c_ref01_Ints_ok M) ctAll_nil)))))))))))))))), mixed⟩) Try.func3 (by kernel_rfl) (by kernel_rfl) p_law02_PoolAnswers [.ag [(.sl (.i .i64)), (.sl (.i .i64))], .ag [(.i .i64), (.i .i64)], .h (.i .i64)] r_law02_PoolAnswers false [] (by kernel_rfl) (fun y => by kernel_rfl) (fun _ => rfl) (m_law02_PoolAnswers N) (fun x => by kernel_rfl)
/-! archipelago/archipelagolaw02.PoolAlone -/
noncomputable def ct_law02_PoolAlone (N : Nat) : List Ctr := [c_law02_alive N, c_pool_Make N, c_pool_Take N, c_pool_Give N, c_pool_Good N, c_pool_Taken N, c_pool_Right N]
def i_law02_PoolAlone_4 : PS := ⟨[(5, .k (.pt 900 0)), (7, .k (.ow 901)), (17, .h (.i .i64)), (18, .h (.i .i64))], [(900, .box 24 [.h (.sl (.i .i64)), .h (.sl (.i .i64))]), (901, .arr 26 (.pr (.i .i64) (.i .i64)) true)], [(.i .i64), (.i .i64), (.sl (.i .i64)), (.sl (.i .i64)), (.sl (.pr (.i .i64) (.i .i64)))]⟩
def o_law02_PoolAlone_4 : List (Exit × PS) := [((.exit 6), ⟨[(5, .k (.pt 900 0)), (7, .k (.ow 901)), (17, .h (.i .i64))], [(900, .box 24 [.h (.sl (.i .i64)), .h (.sl (.i .i64))]), (901, .arr 26 (.pr (.i .i64) (.i .i64)) true)], [(.i .i64), (.sl (.i .i64)), (.sl (.i .i64)), (.sl (.pr (.i .i64) (.i .i64)))]⟩), (.ret, ⟨[(4, .h .b)], [], [.b]⟩)]
def p_law02_PoolAlone_4 : Pl := .z
noncomputable def l_law02_PoolAlone_4 (N : Nat) : Nat → Int × Int × (List Int) × (List Int) × (List (Int × Int)) → Option ((Int × (List Int) × (List Int) × (List (Int × Int))) ⊕ (Bool)) := loopF (exC T (ct_law02_PoolAlone N) N (codeAt [1, 1, 1, 1, 1, 1, 1, 1, 0, 1, 0, 0, 1, 0, 0, 1, 1, 0, 0] (bodyOf Try.f4))) 163 i_law02_PoolAlone_4 o_law02_PoolAlone_4 p_law02_PoolAlone_4
def i_law02_PoolAlone_3 : PS := ⟨[(5, .k (.pt 900 0)), (7, .k (.ow 901)), (17, .h (.i .i64))], [(900, .box 24 [.h (.sl (.i .i64)), .h (.sl (.i .i64))]), (901, .arr 26 (.pr (.i .i64) (.i .i64)) true)], [(.i .i64), (.sl (.i .i64)), (.sl (.i .i64)), (.sl (.pr (.i .i64) (.i .i64)))]⟩
def o_law02_PoolAlone_3 : List (Exit × PS) := [((.exit 4), ⟨[(5, .k (.pt 900 0)), (7, .k (.ow 901))], [(900, .box 24 [.h (.sl (.i .i64)), .h (.sl (.i .i64))]), (901, .arr 26 (.pr (.i .i64) (.i .i64)) true)], [(.sl (.i .i64)), (.sl (.i .i64)), (.sl (.pr (.i .i64) (.i .i64)))]⟩), (.ret, ⟨[(4, .h .b)], [], [.b]⟩)]
def p_law02_PoolAlone_3 : Pl := (.n .z (.n (.n (.n .z (.n .z (.n (.loop i_law02_PoolAlone_4 o_law02_PoolAlone_4 p_law02_PoolAlone_4) .z))) .z) .z))
noncomputable def l_law02_PoolAlone_3 (N : Nat) : Nat → Int × (List Int) × (List Int) × (List (Int × Int)) → Option (((List Int) × (List Int) × (List (Int × Int))) ⊕ (Bool)) := loopF (exC T (ct_law02_PoolAlone N) N (codeAt [1, 1, 1, 1, 1, 1, 1, 1, 0, 1, 0, 0] (bodyOf Try.f4))) 163 i_law02_PoolAlone_3 o_law02_PoolAlone_3 p_law02_PoolAlone_3
def i_law02_PoolAlone_2 : PS := ⟨[(5, .k (.pt 900 0)), (7, .k (.ow 901)), (8, .k (.ow 902)), (16, .h (.i .i64))], [(900, .box 24 [.h (.sl (.i .i64)), .h (.sl (.i .i64))]), (901, .arr 26 (.pr (.i .i64) (.i .i64)) true), (902, .arr 26 (.pr (.i .i64) (.i .i64)) true)], [(.i .i64), (.sl (.i .i64)), (.sl (.i .i64)), (.sl (.pr (.i .i64) (.i .i64))), (.sl (.pr (.i .i64) (.i .i64)))]⟩
def o_law02_PoolAlone_2 : List (Exit × PS) := [((.exit 2), ⟨[(5, .k (.pt 900 0)), (7, .k (.ow 901))], [(900, .box 24 [.h (.sl (.i .i64)), .h (.sl (.i .i64))]), (901, .arr 26 (.pr (.i .i64) (.i .i64)) true)], [(.sl (.i .i64)), (.sl (.i .i64)), (.sl (.pr (.i .i64) (.i .i64)))]⟩), (.ret, ⟨[(4, .h .b)], [], [.b]⟩)]
def p_law02_PoolAlone_2 : Pl := .z
noncomputable def l_law02_PoolAlone_2 (N : Nat) : Nat → Int × (List Int) × (List Int) × (List (Int × Int)) × (List (Int × Int)) → Option (((List Int) × (List Int) × (List (Int × Int))) ⊕ (Bool)) := loopF (exC T (ct_law02_PoolAlone N) N (codeAt [1, 1, 1, 1, 1, 1, 1, 0, 1, 0, 0] (bodyOf Try.f4))) 163 i_law02_PoolAlone_2 o_law02_PoolAlone_2 p_law02_PoolAlone_2
def i_law02_PoolAlone_1 : PS := ⟨[(0, .h (.i .u8)), (1, .h (.sl (.i .u8))), (5, .k (.pt 900 0)), (7, .k (.ow 901)), (8, .k (.ow 902)), (9, .h (.i .i64))], [(900, .box 24 [.h (.sl (.i .i64)), .h (.sl (.i .i64))]), (901, .arr 26 (.pr (.i .i64) (.i .i64)) true), (902, .arr 26 (.pr (.i .i64) (.i .i64)) true)], [(.i .u8), (.sl (.i .u8)), (.i .i64), (.sl (.i .i64)), (.sl (.i .i64)), (.sl (.pr (.i .i64) (.i .i64))), (.sl (.pr (.i .i64) (.i .i64)))]⟩
def o_law02_PoolAlone_1 : List (Exit × PS) := [((.exit 0), ⟨[(5, .k (.pt 900 0)), (7, .k (.ow 901)), (8, .k (.ow 902))], [(900, .box 24 [.h (.sl (.i .i64)), .h (.sl (.i .i64))]), (901, .arr 26 (.pr (.i .i64) (.i .i64)) true), (902, .arr 26 (.pr (.i .i64) (.i .i64)) true)], [(.sl (.i .i64)), (.sl (.i .i64)), (.sl (.pr (.i .i64) (.i .i64))), (.sl (.pr (.i .i64) (.i .i64)))]⟩), (.ret, ⟨[(4, .h .b)], [], [.b]⟩)]
def p_law02_PoolAlone_1 : Pl := .z
noncomputable def l_law02_PoolAlone_1 (N : Nat) : Nat → Int × (List Int) × Int × (List Int) × (List Int) × (List (Int × Int)) × (List (Int × Int)) → Option (((List Int) × (List Int) × (List (Int × Int)) × (List (Int × Int))) ⊕ (Bool)) := loopF (exC T (ct_law02_PoolAlone N) N (codeAt [1, 1, 1, 1, 1, 1, 0, 1, 0, 0] (bodyOf Try.f4))) 163 i_law02_PoolAlone_1 o_law02_PoolAlone_1 p_law02_PoolAlone_1
def p_law02_PoolAlone : Pl := (.n .z (.n .z (.n .z (.n .z (.n .z (.n .z (.n (.n .z (.n (.loop i_law02_PoolAlone_1 o_law02_PoolAlone_1 p_law02_PoolAlone_1) .z)) (.n (.n .z (.n (.loop i_law02_PoolAlone_2 o_law02_PoolAlone_2 p_law02_PoolAlone_2) .z)) (.n (.n .z (.n (.loop i_law02_PoolAlone_3 o_law02_PoolAlone_3 p_law02_PoolAlone_3) .z)) .z)))))))))
def r_law02_PoolAlone : PS := ⟨[(4, .h .b)], [], [.b]⟩
noncomputable def m_law02_PoolAlone (N : Nat) : Int × (List Int) → Option (Bool) := exF T ct_law02_PoolAlone N (bodyOf Try.f4) 163 p_law02_PoolAlone [.h (.i .u8), .h (.sl (.i .u8))] r_law02_PoolAlone
noncomputable def c_law02_PoolAlone (N : Nat) : Ctr := ⟨4, [.h (.i .u8), .h (.sl (.i .u8))], r_law02_PoolAlone.c, m_law02_PoolAlone N, fun y => resG T (mkPS 163 r_law02_PoolAlone y) Try.f4.results.toList, false, fun y => keepH' [] (mkPS 163 r_law02_PoolAlone y).h⟩
theorem l_law02_PoolAlone_4_z (N : Nat) (v : Int × Int × (List Int) × (List Int) × (List (Int × Int))) : l_law02_PoolAlone_4 N 0 v = none := by kernel_rfl
theorem l_law02_PoolAlone_4_s (N m : Nat) (i : Int) (k : Int) (p : (List Int)) (p2 : (List Int)) (good : (List (Int × Int))) : l_law02_PoolAlone_4 N (m + 1) (i, k, p, p2, good) = cond (decide (k < i))
   (obind (nthI good k) fun z1 =>
    obind (nthI good k) fun z2 =>
    obind (nthI good i) fun z3 =>
    obind (nthI good i) fun z4 =>
    cond (decide (z2.1 = z4.1))
     (some (.inr false))
     ((l_law02_PoolAlone_4 N m (i, ((IntKind.wrap .i64 (k + (1 : Int))), (p, (p2, good)))))))
   (some (.inl (i, (p, (p2, good))))) := by kernel_rfl
theorem l_law02_PoolAlone_3_z (N : Nat) (v : Int × (List Int) × (List Int) × (List (Int × Int))) : l_law02_PoolAlone_3 N 0 v = none := by kernel_rfl
theorem l_law02_PoolAlone_3_s (N m : Nat) (i : Int) (p : (List Int)) (p2 : (List Int)) (good : (List (Int × Int))) : l_law02_PoolAlone_3 N (m + 1) (i, p, p2, good) = cond (decide (i < (((List.length good) : Nat) : Int)))
   (obind (nthI good i) fun z1 =>
    obind (nthI good i) fun z2 =>
    obind (m_pool_Good N (p, (p2, (z2.1, z2.2)))) fun z3 =>
    cond (!z3)
     (some (.inr false))
     (obind (l_law02_PoolAlone_4 N N (i, ((0 : Int), (p, (p2, good))))) fun z4 =>
      (match z4 with
      | .inl zy5 => (l_law02_PoolAlone_3 N m ((IntKind.wrap .i64 (zy5.1 + (1 : Int))), (zy5.2.1, (zy5.2.2.1, zy5.2.2.2))))
      | .inr zy6 => some (.inr zy6))))
   (some (.inl (p, (p2, good)))) := by kernel_rfl
theorem l_law02_PoolAlone_2_z (N : Nat) (v : Int × (List Int) × (List Int) × (List (Int × Int)) × (List (Int × Int))) : l_law02_PoolAlone_2 N 0 v = none := by kernel_rfl
theorem l_law02_PoolAlone_2_s (N m : Nat) (i : Int) (p : (List Int)) (p2 : (List Int)) (good : (List (Int × Int))) (gone : (List (Int × Int))) : l_law02_PoolAlone_2 N (m + 1) (i, p, p2, good, gone) = cond (decide (i < (((List.length gone) : Nat) : Int)))
   (obind (nthI gone i) fun z1 =>
    obind (nthI gone i) fun z2 =>
    obind (m_pool_Good N (p, (p2, (z2.1, z2.2)))) fun z3 =>
    cond z3
     (some (.inr false))
     ((l_law02_PoolAlone_2 N m ((IntKind.wrap .i64 (i + (1 : Int))), (p, (p2, (good, gone)))))))
   (some (.inl (p, (p2, good)))) := by kernel_rfl
theorem l_law02_PoolAlone_1_z (N : Nat) (v : Int × (List Int) × Int × (List Int) × (List Int) × (List (Int × Int)) × (List (Int × Int))) : l_law02_PoolAlone_1 N 0 v = none := by kernel_rfl
theorem l_law02_PoolAlone_1_s (N m : Nat) (n : Int) (acts : (List Int)) (i : Int) (p : (List Int)) (p2 : (List Int)) (good : (List (Int × Int))) (gone : (List (Int × Int))) : l_law02_PoolAlone_1 N (m + 1) (n, acts, i, p, p2, good, gone) = cond (decide (i < (((List.length acts) : Nat) : Int)))
   (obind (nthI acts i) fun z1 =>
    cond (decide ((Int.tmod z1 (2 : Int)) = (0 : Int)))
     (obind (m_pool_Take N (p, p2)) fun z2 =>
      cond (!((decide (z2.1 = (0 : Int))) == (decide ((((List.length good) : Nat) : Int) < (IntKind.wrap .i64 ((1 : Int) + (Int.tmod (IntKind.wrap .i64 n) (20 : Int))))))))
       (some (.inr false))
       (cond (decide (z2.1 = (0 : Int)))
         (obind (appI (16 : Nat) good [(z2.2.2.2.1, z2.2.2.2.2)]) fun z3 =>
          (l_law02_PoolAlone_1 N m (n, (acts, ((IntKind.wrap .i64 (i + (1 : Int))), (z2.2.1, (z2.2.2.1, (z3, gone))))))))
         ((l_law02_PoolAlone_1 N m (n, (acts, ((IntKind.wrap .i64 (i + (1 : Int))), (p, (p2, (good, gone))))))))))
     (cond (decide ((((List.length good) : Nat) : Int) = (0 : Int)))
       (obind (m_pool_Take N (p, p2)) fun z4 =>
        cond (!((decide (z4.1 = (0 : Int))) == (decide ((((List.length good) : Nat) : Int) < (IntKind.wrap .i64 ((1 : Int) + (Int.tmod (IntKind.wrap .i64 n) (20 : Int))))))))
         (some (.inr false))
         (cond (decide (z4.1 = (0 : Int)))
           (obind (appI (16 : Nat) good [(z4.2.2.2.1, z4.2.2.2.2)]) fun z5 =>
            (l_law02_PoolAlone_1 N m (n, (acts, ((IntKind.wrap .i64 (i + (1 : Int))), (z4.2.1, (z4.2.2.1, (z5, gone))))))))
           ((l_law02_PoolAlone_1 N m (n, (acts, ((IntKind.wrap .i64 (i + (1 : Int))), (p, (p2, (good, gone))))))))))
       (obind (nthI acts i) fun z6 =>
        obind (remI (IntKind.wrap .i64 (IntKind.wrap .u8 (Int.tdiv z6 (2 : Int)))) (((List.length good) : Nat) : Int)) fun z7 =>
        obind (nthI good z7) fun z8 =>
        obind (nthI good z7) fun z9 =>
        obind (m_pool_Give N (p, (p2, (z9.1, z9.2)))) fun z10 =>
        cond (!(decide (z10.1 = (0 : Int))))
         (some (.inr false))
         (obind (nthI good z7) fun z11 =>
          obind (nthI good z7) fun z12 =>
          obind (appI (16 : Nat) gone [(z12.1, z12.2)]) fun z13 =>
          obind (subI good (0 : Int) z7) fun z14 =>
          obind (appI (16 : Nat) [] z14) fun z15 =>
          obind (subI good (IntKind.wrap .i64 (z7 + (1 : Int))) (((List.length good) : Nat) : Int)) fun z16 =>
          obind (appI (16 : Nat) z15 z16) fun z17 =>
          (l_law02_PoolAlone_1 N m (n, (acts, ((IntKind.wrap .i64 (i + (1 : Int))), (z10.2.1, (z10.2.2, (z17, z13)))))))))))
   (some (.inl (p, (p2, (good, gone))))) := by kernel_rfl
theorem m_law02_PoolAlone_eq (N : Nat) (n : Int) (acts : (List Int)) : m_law02_PoolAlone (N + 1) (n, acts) = obind (m_law02_alive N ()) fun z1 =>
  cond (!z1)
   (some false)
   (cond (decide ((100 : Int) < (((List.length acts) : Nat) : Int)))
     (some true)
     (obind (m_pool_Make N (IntKind.wrap .i64 ((1 : Int) + (Int.tmod (IntKind.wrap .i64 n) (20 : Int))))) fun z2 =>
      cond (!(decide (z2.1 = (0 : Int))))
       (some false)
       (obind (l_law02_PoolAlone_1 N N (n, (acts, ((0 : Int), (z2.2.1, (z2.2.2, ([], []))))))) fun z3 =>
        (match z3 with
        | .inl zy4 => obind (l_law02_PoolAlone_2 N N ((0 : Int), (zy4.1, (zy4.2.1, (zy4.2.2.1, zy4.2.2.2))))) fun z5 =>
          (match z5 with
          | .inl zy6 => obind (l_law02_PoolAlone_3 N N ((0 : Int), (zy6.1, (zy6.2.1, zy6.2.2)))) fun z7 =>
            (match z7 with
            | .inl zy8 => obind (m_pool_Taken N (zy8.1, zy8.2.1)) fun z9 =>
              cond (decide ((((List.length z9) : Nat) : Int) = (((List.length zy8.2.2) : Nat) : Int)))
               (obind (m_pool_Right N (zy8.1, zy8.2.1)) fun z10 =>
                some z10)
               (some false)
            | .inr zy11 => some zy11)
          | .inr zy12 => some zy12)
        | .inr zy13 => some zy13)))) := by kernel_rfl
theorem c_law02_PoolAlone_ok (N : Nat) : (c_law02_PoolAlone N).ok Try.prog := exF_ok (T := T) (CT := ct_law02_PoolAlone) (N := N) (fun M => ⟨tOk, (ctAll_cons (c_law02_alive_ok M) (ctAll_cons (c_pool_Make_ok M) (ctAll_cons (c_pool_Take_ok M) (ctAll_cons (c_pool_Give_ok M) (ctAll_cons (c_pool_Good_ok M) (ctAll_cons (c_pool_Taken_ok M) (ctAll_cons (c_pool_Right_ok M) ctAll_nil))))))), mixed⟩) Try.func4 (by kernel_rfl) (by kernel_rfl) p_law02_PoolAlone [.h (.i .u8), .h (.sl (.i .u8))] r_law02_PoolAlone false [] (by kernel_rfl) (fun y => by kernel_rfl) (fun _ => rfl) (m_law02_PoolAlone N) (fun x => by kernel_rfl)
/-! archipelago/archipelagolaw02.PoolStays -/
noncomputable def ct_law02_PoolStays (N : Nat) : List Ctr := [c_law02_alive N, c_ref02_Great N, c_pool_Take N, c_pool_Give N, c_ref02_Same N, c_ref01_Ints N, c_pool_Good N]
def i_law02_PoolStays_1 : PS := ⟨[(2, .k (.pt 900 0)), (3, .k (.pt 901 0)), (6, .k (.pt 902 0)), (7, .k (.pt 903 0)), (8, .h (.i .i64)), (9, .k (.pt 904 0)), (10, .h (.i .i64))], [(900, .box 24 [.h (.sl (.i .i64)), .h (.sl (.i .i64))]), (901, .box 26 [.h (.i .i64), .h (.i .i64)]), (902, .box 24 [.h (.sl (.i .i64)), .h (.sl (.i .i64))]), (903, .box 26 [.h (.i .i64), .h (.i .i64)]), (904, .box 24 [.h (.sl (.i .i64)), .h (.sl (.i .i64))])], [(.i .i64), (.i .i64), (.sl (.i .i64)), (.sl (.i .i64)), (.i .i64), (.i .i64), (.sl (.i .i64)), (.sl (.i .i64)), (.i .i64), (.i .i64), (.sl (.i .i64)), (.sl (.i .i64))]⟩
def o_law02_PoolStays_1 : List (Exit × PS) := [(.ret, ⟨[(4, .h .b)], [], [.b]⟩), (.normal, ⟨[(2, .k (.pt 900 0)), (3, .k (.pt 901 0)), (9, .k (.pt 902 0)), (10, .h (.i .i64))], [(900, .box 24 [.h (.sl (.i .i64)), .h (.sl (.i .i64))]), (901, .box 26 [.h (.i .i64), .h (.i .i64)]), (902, .box 24 [.h (.sl (.i .i64)), .h (.sl (.i .i64))])], [(.i .i64), (.sl (.i .i64)), (.sl (.i .i64)), (.i .i64), (.i .i64), (.sl (.i .i64)), (.sl (.i .i64))]⟩)]
def p_law02_PoolStays_1 : Pl := .z
noncomputable def l_law02_PoolStays_1 (N : Nat) : Nat → Int × Int × (List Int) × (List Int) × Int × Int × (List Int) × (List Int) × Int × Int × (List Int) × (List Int) → Option ((Bool) ⊕ (Int × (List Int) × (List Int) × Int × Int × (List Int) × (List Int))) := joinF (exC0 T (ct_law02_PoolStays N) N (codeAt [1, 1, 1, 1, 1, 1, 1, 0] (bodyOf Try.f5))) 112 i_law02_PoolStays_1 o_law02_PoolStays_1 p_law02_PoolStays_1
def p_law02_PoolStays : Pl := (.n .z (.n .z (.n .z (.n .z (.n .z (.n .z (.n .z (.n (.join i_law02_PoolStays_1 o_law02_PoolStays_1 p_law02_PoolStays_1) .z))))))))
def r_law02_PoolStays : PS := ⟨[(4, .h .b)], [], [.b]⟩
noncomputable def m_law02_PoolStays (N : Nat) : (List Int) × (List Int) × Int × Int → Option (Bool) := exF T ct_law02_PoolStays N (bodyOf Try.f5) 112 p_law02_PoolStays [.ag [(.sl (.i .i64)), (.sl (.i .i64))], .ag [(.i .i64), (.i .i64)]] r_law02_PoolStays
noncomputable def c_law02_PoolStays (N : Nat) : Ctr := ⟨5, [.ag [(.sl (.i .i64)), (.sl (.i .i64))], .ag [(.i .i64), (.i .i64)]], r_law02_PoolStays.c, m_law02_PoolStays N, fun y => resG T (mkPS 112 r_law02_PoolStays y) Try.f5.results.toList, false, fun y => keepH' [] (mkPS 112 r_law02_PoolStays y).h⟩
theorem l_law02_PoolStays_1_s (N m : Nat) (e : Int) (f : Int) (p : (List Int)) (p2 : (List Int)) (h : Int) (h2 : Int) (a : (List Int)) (a2 : (List Int)) (x : Int) (x2 : Int) (b : (List Int)) (b2 : (List Int)) : l_law02_PoolStays_1 N (m + 1) (e, f, p, p2, h, h2, a, a2, x, x2, b, b2) = cond (decide (e = (0 : Int)))
   (obind (m_pool_Give N (a, (a2, (x, x2)))) fun z1 =>
    cond (!(decide (z1.1 = (0 : Int))))
     (some (.inl false))
     (obind (m_ref01_Ints N (z1.2.2, p2)) fun z2 =>
      cond (!z2)
       (some (.inl false))
       (obind (m_pool_Good N (z1.2.1, (z1.2.2, (x, x2)))) fun z3 =>
        cond z3
         (some (.inl false))
         (obind (m_pool_Good N (p, (p2, (x, x2)))) fun z4 =>
          cond z4
           (some (.inl false))
           (some (.inr (f, (p, (p2, (h, (h2, (b, b2))))))))))))
   (some (.inr (f, (p, (p2, (h, (h2, (b, b2)))))))) := by kernel_rfl
theorem m_law02_PoolStays_eq (N : Nat) (p : (List Int)) (p2 : (List Int)) (h : Int) (h2 : Int) : m_law02_PoolStays (N + 1) (p, p2, h, h2) = obind (m_law02_alive N ()) fun z1 =>
  cond (!z1)
   (some false)
   (obind (m_ref02_Great N (p, p2)) fun z2 =>
    cond z2
     (some true)
     (obind (appI (8 : Nat) [] p) fun z3 =>
      obind (appI (8 : Nat) [] p2) fun z4 =>
      obind (m_pool_Take N (z3, z4)) fun z5 =>
      obind (m_pool_Give N (z3, (z4, (h, h2)))) fun z6 =>
      obind (m_ref02_Same N (z3, (z4, (p, p2)))) fun z7 =>
      cond (!z7)
       (some false)
       (obind (l_law02_PoolStays_1 N N (z5.1, (z6.1, (p, (p2, (h, (h2, (z5.2.1, (z5.2.2.1, (z5.2.2.2.1, (z5.2.2.2.2, (z6.2.1, z6.2.2)))))))))))) fun z8 =>
        (match z8 with
        | .inl zy9 => some zy9
        | .inr zy10 => cond (decide (zy10.1 = (0 : Int)))
           (obind (m_pool_Take N (zy10.2.2.2.2.2.1, zy10.2.2.2.2.2.2)) fun z11 =>
            cond (decide (z11.1 = (2 : Int)))
             (some true)
             (cond (decide (z11.1 = (0 : Int)))
               (cond (decide (z11.2.2.2.1 = zy10.2.2.2.1))
                 (cond (decide (z11.2.2.2.2 = (IntKind.wrap .i64 (zy10.2.2.2.2.1 + (1 : Int)))))
                   (obind (m_ref01_Ints N (z11.2.2.1, zy10.2.2.1)) fun z12 =>
                    some z12)
                   (some false))
                 (some false))
               (some false)))
           (obind (m_ref02_Same N (zy10.2.2.2.2.2.1, (zy10.2.2.2.2.2.2, (zy10.2.1, zy10.2.2.1)))) fun z13 =>
            some z13))))) := by kernel_rfl
theorem c_law02_PoolStays_ok (N : Nat) : (c_law02_PoolStays N).ok Try.prog := exF_ok (T := T) (CT := ct_law02_PoolStays) (N := N) (fun M => ⟨tOk, (ctAll_cons (c_law02_alive_ok M) (ctAll_cons (c_ref02_Great_ok M) (ctAll_cons (c_pool_Take_ok M) (ctAll_cons (c_pool_Give_ok M) (ctAll_cons (c_ref02_Same_ok M) (ctAll_cons (c_ref01_Ints_ok M) (ctAll_cons (c_pool_Good_ok M) ctAll_nil))))))), mixed⟩) Try.func5 (by kernel_rfl) (by kernel_rfl) p_law02_PoolStays [.ag [(.sl (.i .i64)), (.sl (.i .i64))], .ag [(.i .i64), (.i .i64)]] r_law02_PoolStays false [] (by kernel_rfl) (fun y => by kernel_rfl) (fun _ => rfl) (m_law02_PoolStays N) (fun x => by kernel_rfl)
/-! archipelago/archipelagolaw02.PoolOrder -/
noncomputable def ct_law02_PoolOrder (N : Nat) : List Ctr := [c_law02_alive N, c_pool_Make N, c_pool_Take N, c_pool_Good N, c_pool_Give N, c_pool_Taken N]
def i_law02_PoolOrder_3 : PS := ⟨[(5, .h (.i .i64)), (6, .k (.pt 900 0)), (13, .k (.ow 901)), (19, .h (.i .i64))], [(900, .box 24 [.h (.sl (.i .i64)), .h (.sl (.i .i64))]), (901, .arr 3 (.i .i64) true)], [(.i .i64), (.i .i64), (.sl (.i .i64)), (.sl (.i .i64)), (.sl (.i .i64))]⟩
def o_law02_PoolOrder_3 : List (Exit × PS) := [((.exit 4), ⟨[(5, .h (.i .i64)), (6, .k (.pt 900 0))], [(900, .box 24 [.h (.sl (.i .i64)), .h (.sl (.i .i64))])], [(.i .i64), (.sl (.i .i64)), (.sl (.i .i64))]⟩), (.ret, ⟨[(4, .h .b)], [], [.b]⟩)]
def p_law02_PoolOrder_3 : Pl := .z
noncomputable def l_law02_PoolOrder_3 (N : Nat) : Nat → Int × Int × (List Int) × (List Int) × (List Int) → Option ((Int × (List Int) × (List Int)) ⊕ (Bool)) := loopF (exC T (ct_law02_PoolOrder N) N (codeAt [1, 1, 1, 1, 1, 1, 1, 1, 1, 0, 1, 0, 0] (bodyOf Try.f6))) 154 i_law02_PoolOrder_3 o_law02_PoolOrder_3 p_law02_PoolOrder_3
def i_law02_PoolOrder_2 : PS := ⟨[(1, .h (.sl (.i .u8))), (5, .h (.i .i64)), (6, .k (.pt 900 0)), (8, .k (.ow 901)), (13, .k (.ow 902)), (14, .h (.i .i64))], [(900, .box 24 [.h (.sl (.i .i64)), .h (.sl (.i .i64))]), (901, .arr 26 (.pr (.i .i64) (.i .i64)) true), (902, .arr 3 (.i .i64) true)], [(.sl (.i .u8)), (.i .i64), (.i .i64), (.sl (.i .i64)), (.sl (.i .i64)), (.sl (.pr (.i .i64) (.i .i64))), (.sl (.i .i64))]⟩
def o_law02_PoolOrder_2 : List (Exit × PS) := [((.exit 2), ⟨[(5, .h (.i .i64)), (6, .k (.pt 900 0)), (13, .k (.ow 901))], [(900, .box 24 [.h (.sl (.i .i64)), .h (.sl (.i .i64))]), (901, .arr 3 (.i .i64) true)], [(.i .i64), (.sl (.i .i64)), (.sl (.i .i64)), (.sl (.i .i64))]⟩), (.ret, ⟨[(4, .h .b)], [], [.b]⟩)]
def p_law02_PoolOrder_2 : Pl := .z
noncomputable def l_law02_PoolOrder_2 (N : Nat) : Nat → (List Int) × Int × Int × (List Int) × (List Int) × (List (Int × Int)) × (List Int) → Option ((Int × (List Int) × (List Int) × (List Int)) ⊕ (Bool)) := loopF (exC T (ct_law02_PoolOrder N) N (codeAt [1, 1, 1, 1, 1, 1, 1, 1, 0, 1, 0, 0] (bodyOf Try.f6))) 154 i_law02_PoolOrder_2 o_law02_PoolOrder_2 p_law02_PoolOrder_2
def i_law02_PoolOrder_1 : PS := ⟨[(1, .h (.sl (.i .u8))), (5, .h (.i .i64)), (6, .k (.pt 900 0)), (7, .h (.i .i64)), (8, .k (.ow 901)), (9, .h (.i .i64))], [(900, .box 24 [.h (.sl (.i .i64)), .h (.sl (.i .i64))]), (901, .arr 26 (.pr (.i .i64) (.i .i64)) true)], [(.sl (.i .u8)), (.i .i64), (.i .i64), (.i .i64), (.sl (.i .i64)), (.sl (.i .i64)), (.sl (.pr (.i .i64) (.i .i64)))]⟩
def o_law02_PoolOrder_1 : List (Exit × PS) := [((.exit 0), ⟨[(1, .h (.sl (.i .u8))), (5, .h (.i .i64)), (6, .k (.pt 900 0)), (8, .k (.ow 901))], [(900, .box 24 [.h (.sl (.i .i64)), .h (.sl (.i .i64))]), (901, .arr 26 (.pr (.i .i64) (.i .i64)) true)], [(.sl (.i .u8)), (.i .i64), (.sl (.i .i64)), (.sl (.i .i64)), (.sl (.pr (.i .i64) (.i .i64)))]⟩), (.ret, ⟨[(4, .h .b)], [], [.b]⟩)]
def p_law02_PoolOrder_1 : Pl := .z
noncomputable def l_law02_PoolOrder_1 (N : Nat) : Nat → (List Int) × Int × Int × Int × (List Int) × (List Int) × (List (Int × Int)) → Option (((List Int) × Int × (List Int) × (List Int) × (List (Int × Int))) ⊕ (Bool)) := loopF (exC T (ct_law02_PoolOrder N) N (codeAt [1, 1, 1, 1, 1, 1, 0, 1, 0, 0] (bodyOf Try.f6))) 154 i_law02_PoolOrder_1 o_law02_PoolOrder_1 p_law02_PoolOrder_1
def p_law02_PoolOrder : Pl := (.n .z (.n .z (.n .z (.n .z (.n .z (.n .z (.n (.n .z (.n (.loop i_law02_PoolOrder_1 o_law02_PoolOrder_1 p_law02_PoolOrder_1) .z)) (.n .z (.n (.n .z (.n (.loop i_law02_PoolOrder_2 o_law02_PoolOrder_2 p_law02_PoolOrder_2) .z)) (.n (.n .z (.n (.loop i_law02_PoolOrder_3 o_law02_PoolOrder_3 p_law02_PoolOrder_3) .z)) .z))))))))))
def r_law02_PoolOrder : PS := ⟨[(4, .h .b)], [], [.b]⟩
noncomputable def m_law02_PoolOrder (N : Nat) : Int × (List Int) → Option (Bool) := exF T ct_law02_PoolOrder N (bodyOf Try.f6) 154 p_law02_PoolOrder [.h (.i .u8), .h (.sl (.i .u8))] r_law02_PoolOrder
noncomputable def c_law02_PoolOrder (N : Nat) : Ctr := ⟨6, [.h (.i .u8), .h (.sl (.i .u8))], r_law02_PoolOrder.c, m_law02_PoolOrder N, fun y => resG T (mkPS 154 r_law02_PoolOrder y) Try.f6.results.toList, false, fun y => keepH' [] (mkPS 154 r_law02_PoolOrder y).h⟩
theorem l_law02_PoolOrder_3_z (N : Nat) (v : Int × Int × (List Int) × (List Int) × (List Int)) : l_law02_PoolOrder_3 N 0 v = none := by kernel_rfl
theorem l_law02_PoolOrder_3_s (N m : Nat) (k : Int) (i : Int) (p : (List Int)) (p2 : (List Int)) (order : (List Int)) : l_law02_PoolOrder_3 N (m + 1) (k, i, p, p2, order) = cond (decide ((0 : Int) ≤ i))
   (obind (m_pool_Take N (p, p2)) fun z1 =>
    cond (!(decide (z1.1 = (0 : Int))))
     (some (.inr false))
     (obind (nthI order i) fun z2 =>
      obind (nthI order i) fun z3 =>
      cond (!(decide (z1.2.2.2.1 = z3)))
       (some (.inr false))
       (cond (!(decide (z1.2.2.2.2 = (2 : Int))))
         (some (.inr false))
         ((l_law02_PoolOrder_3 N m (k, ((IntKind.wrap .i64 (i - (1 : Int))), (z1.2.1, (z1.2.2.1, order)))))))))
   (some (.inl (k, (p, p2)))) := by kernel_rfl
theorem l_law02_PoolOrder_2_z (N : Nat) (v : (List Int) × Int × Int × (List Int) × (List Int) × (List (Int × Int)) × (List Int)) : l_law02_PoolOrder_2 N 0 v = none := by kernel_rfl
theorem l_law02_PoolOrder_2_s (N m : Nat) (gives : (List Int)) (k : Int) (i : Int) (p : (List Int)) (p2 : (List Int)) (all : (List (Int × Int))) (order : (List Int)) : l_law02_PoolOrder_2 N (m + 1) (gives, k, i, p, p2, all, order) = cond (decide (i < (((List.length gives) : Nat) : Int)))
   (obind (nthI gives i) fun z1 =>
    obind (remI (IntKind.wrap .i64 z1) k) fun z2 =>
    obind (nthI all z2) fun z3 =>
    obind (nthI all z2) fun z4 =>
    obind (m_pool_Good N (p, (p2, (z4.1, z4.2)))) fun z5 =>
    obind (m_pool_Give N (p, (p2, (z4.1, z4.2)))) fun z6 =>
    cond (!(z5 == (decide (z6.1 = (0 : Int)))))
     (some (.inr false))
     (cond z5
       (obind (appI (8 : Nat) order [z4.1]) fun z7 =>
        (l_law02_PoolOrder_2 N m (gives, (k, ((IntKind.wrap .i64 (i + (1 : Int))), (z6.2.1, (z6.2.2, (all, z7))))))))
       ((l_law02_PoolOrder_2 N m (gives, (k, ((IntKind.wrap .i64 (i + (1 : Int))), (p, (p2, (all, order))))))))))
   (some (.inl (k, (p, (p2, order))))) := by kernel_rfl
theorem l_law02_PoolOrder_1_z (N : Nat) (v : (List Int) × Int × Int × Int × (List Int) × (List Int) × (List (Int × Int))) : l_law02_PoolOrder_1 N 0 v = none := by kernel_rfl
theorem l_law02_PoolOrder_1_s (N m : Nat) (gives : (List Int)) (k : Int) (e : Int) (i : Int) (p : (List Int)) (p2 : (List Int)) (all : (List (Int × Int))) : l_law02_PoolOrder_1 N (m + 1) (gives, k, e, i, p, p2, all) = cond (decide (i < k))
   (obind (m_pool_Take N (p, p2)) fun z1 =>
    cond (!(decide (e = (0 : Int))))
     (some (.inr false))
     (cond (!(decide (z1.1 = (0 : Int))))
       (some (.inr false))
       (cond (!(decide (z1.2.2.2.1 = i)))
         (some (.inr false))
         (cond (!(decide (z1.2.2.2.2 = (1 : Int))))
           (some (.inr false))
           (obind (appI (16 : Nat) all [(z1.2.2.2.1, z1.2.2.2.2)]) fun z2 =>
            (l_law02_PoolOrder_1 N m (gives, (k, (e, ((IntKind.wrap .i64 (i + (1 : Int))), (z1.2.1, (z1.2.2.1, z2))))))))))))
   (some (.inl (gives, (k, (p, (p2, all)))))) := by kernel_rfl
theorem m_law02_PoolOrder_eq (N : Nat) (n : Int) (gives : (List Int)) : m_law02_PoolOrder (N + 1) (n, gives) = obind (m_law02_alive N ()) fun z1 =>
  cond (!z1)
   (some false)
   (cond (decide ((60 : Int) < (((List.length gives) : Nat) : Int)))
     (some true)
     (obind (m_pool_Make N (IntKind.wrap .i64 ((1 : Int) + (Int.tmod (IntKind.wrap .i64 n) (20 : Int))))) fun z2 =>
      obind (l_law02_PoolOrder_1 N N (gives, ((IntKind.wrap .i64 ((1 : Int) + (Int.tmod (IntKind.wrap .i64 n) (20 : Int)))), (z2.1, ((0 : Int), (z2.2.1, (z2.2.2, []))))))) fun z3 =>
      (match z3 with
      | .inl zy4 => obind (l_law02_PoolOrder_2 N N (zy4.1, (zy4.2.1, ((0 : Int), (zy4.2.2.1, (zy4.2.2.2.1, (zy4.2.2.2.2, []))))))) fun z5 =>
        (match z5 with
        | .inl zy6 => obind (l_law02_PoolOrder_3 N N (zy6.1, ((IntKind.wrap .i64 ((((List.length zy6.2.2.2) : Nat) : Int) - (1 : Int))), (zy6.2.1, (zy6.2.2.1, zy6.2.2.2))))) fun z7 =>
          (match z7 with
          | .inl zy8 => obind (m_pool_Take N (zy8.2.1, zy8.2.2)) fun z9 =>
            cond (decide (z9.1 = (2 : Int)))
             (obind (m_pool_Taken N (zy8.2.1, zy8.2.2)) fun z10 =>
              some (decide ((((List.length z10) : Nat) : Int) = zy8.1)))
             (some false)
          | .inr zy11 => some zy11)
        | .inr zy12 => some zy12)
      | .inr zy13 => some zy13))) := by kernel_rfl
theorem c_law02_PoolOrder_ok (N : Nat) : (c_law02_PoolOrder N).ok Try.prog := exF_ok (T := T) (CT := ct_law02_PoolOrder) (N := N) (fun M => ⟨tOk, (ctAll_cons (c_law02_alive_ok M) (ctAll_cons (c_pool_Make_ok M) (ctAll_cons (c_pool_Take_ok M) (ctAll_cons (c_pool_Good_ok M) (ctAll_cons (c_pool_Give_ok M) (ctAll_cons (c_pool_Taken_ok M) ctAll_nil)))))), mixed⟩) Try.func6 (by kernel_rfl) (by kernel_rfl) p_law02_PoolOrder [.h (.i .u8), .h (.sl (.i .u8))] r_law02_PoolOrder false [] (by kernel_rfl) (fun y => by kernel_rfl) (fun _ => rfl) (m_law02_PoolOrder N) (fun x => by kernel_rfl)
end Go.Proofs.Ytiejnblpmfgpbaa
