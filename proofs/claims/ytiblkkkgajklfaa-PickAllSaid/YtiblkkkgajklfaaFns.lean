/- The functions of this seat, reckoned: of each what it computes, as a tree, and its contract (printed by wip/tool/plan.sh). -/
import Derived.Test.YtiblkkkgajklfaaTys
set_option linter.unusedVariables false
set_option maxRecDepth 100000
namespace Go.Proofs.Ytiblkkkgajklfaa
open Go Go.RowKit
/-! archipelago/archipelagoref13.Place -/
noncomputable def ct_ref13_Place (N : Nat) : List Ctr := []
def i_ref13_Place_1 : PS := ⟨[(0, .h (.sl (.i .i64))), (1, .h (.i .i64)), (5, .h (.i .i64))], [], [(.sl (.i .i64)), (.i .i64), (.i .i64)]⟩
def o_ref13_Place_1 : List (Exit × PS) := [((.exit 0), ⟨[], [], []⟩), (.ret, ⟨[(4, .h (.i .i64))], [], [(.i .i64)]⟩)]
def p_ref13_Place_1 : Pl := .z
noncomputable def l_ref13_Place_1 (N : Nat) : Nat → (List Int) × Int × Int → Option ((Unit) ⊕ (Int)) := loopF (exC T (ct_ref13_Place N) N (codeAt [1, 0, 1, 0, 0] (bodyOf Try.f62))) 19 i_ref13_Place_1 o_ref13_Place_1 p_ref13_Place_1
def p_ref13_Place : Pl := (.n .z (.n (.n .z (.n (.loop i_ref13_Place_1 o_ref13_Place_1 p_ref13_Place_1) .z)) .z))
def r_ref13_Place : PS := ⟨[(4, .h (.i .i64))], [], [(.i .i64)]⟩
noncomputable def m_ref13_Place (N : Nat) : (List Int) × Int → Option (Int) := exF T ct_ref13_Place N (bodyOf Try.f62) 19 p_ref13_Place [.h (.sl (.i .i64)), .h (.i .i64)] [] [(.sl (.i .i64)), (.i .i64)] r_ref13_Place
noncomputable def c_ref13_Place (N : Nat) : Ctr := ⟨62, [.h (.sl (.i .i64)), .h (.i .i64)], [], [(.sl (.i .i64)), (.i .i64)], Tup r_ref13_Place.c, m_ref13_Place N, fun y _ k => k (resG T (mkPS 19 r_ref13_Place y) Try.f62.results.toList) (keepH' [] (mkPS 19 r_ref13_Place y).h), false, true⟩
theorem l_ref13_Place_1_z (N : Nat) (v : (List Int) × Int × Int) : l_ref13_Place_1 N 0 v = none := by kernel_rfl
theorem l_ref13_Place_1_s (N m : Nat) (l : (List Int)) (token : Int) (i : Int) : l_ref13_Place_1 N (m + 1) (l, token, i) = cond (decide (i < (((List.length l) : Nat) : Int)))
   (obind (nthI l i) fun z1 =>
    cond (decide (z1 = token))
     (some (.inr i))
     ((l_ref13_Place_1 N m (l, (token, (IntKind.wrap .i64 (i + (1 : Int))))))))
   (some (.inl ())) := by kernel_rfl
theorem m_ref13_Place_eq (N : Nat) (l : (List Int)) (token : Int) : m_ref13_Place (N + 1) (l, token) = obind (l_ref13_Place_1 N N (l, (token, (0 : Int)))) fun z1 =>
  (match z1 with
  | .inl zy2 => some (-(1 : Int))
  | .inr zy3 => some zy3) := by kernel_rfl
theorem c_ref13_Place_ok (N : Nat) : (c_ref13_Place N).ok Try.prog := exF_ok (T := T) (CT := ct_ref13_Place) (N := N) (fun M => ⟨tOk, ctAll_nil, mixed⟩) Try.func62 (by kernel_rfl) (by kernel_rfl) p_ref13_Place [.h (.sl (.i .i64)), .h (.i .i64)] [] [(.sl (.i .i64)), (.i .i64)] r_ref13_Place false true [] (by kernel_rfl) (fun y => by kernel_rfl) (fun _ => ⟨rfl, rfl⟩) (fun y => by kernel_rfl) (m_ref13_Place N) (fun x => by kernel_rfl)
/-! archipelago/archipelagoref13.Right -/
noncomputable def ct_ref13_Right (N : Nat) : List Ctr := [c_ref13_Place N]
def i_ref13_Right_1 : PS := ⟨[(0, .h (.sl (.i .i64))), (3, .h (.i .i64))], [], [(.sl (.i .i64)), (.i .i64)]⟩
def o_ref13_Right_1 : List (Exit × PS) := [((.exit 0), ⟨[], [], []⟩), (.ret, ⟨[(2, .h .b)], [], [.b]⟩)]
def p_ref13_Right_1 : Pl := .z
noncomputable def l_ref13_Right_1 (N : Nat) : Nat → (List Int) × Int → Option ((Unit) ⊕ (Bool)) := loopF (exC T (ct_ref13_Right N) N (codeAt [1, 1, 0, 1, 0, 0] (bodyOf Try.f55))) 36 i_ref13_Right_1 o_ref13_Right_1 p_ref13_Right_1
def p_ref13_Right : Pl := (.n .z (.n .z (.n (.n .z (.n (.loop i_ref13_Right_1 o_ref13_Right_1 p_ref13_Right_1) .z)) .z)))
def r_ref13_Right : PS := ⟨[(2, .h .b)], [], [.b]⟩
noncomputable def m_ref13_Right (N : Nat) : (List Int) → Option (Bool) := exF T ct_ref13_Right N (bodyOf Try.f55) 36 p_ref13_Right [.h (.sl (.i .i64))] [] [(.sl (.i .i64))] r_ref13_Right
noncomputable def c_ref13_Right (N : Nat) : Ctr := ⟨55, [.h (.sl (.i .i64))], [], [(.sl (.i .i64))], Tup r_ref13_Right.c, m_ref13_Right N, fun y _ k => k (resG T (mkPS 36 r_ref13_Right y) Try.f55.results.toList) (keepH' [] (mkPS 36 r_ref13_Right y).h), false, true⟩
theorem l_ref13_Right_1_z (N : Nat) (v : (List Int) × Int) : l_ref13_Right_1 N 0 v = none := by kernel_rfl
theorem l_ref13_Right_1_s (N m : Nat) (l : (List Int)) (i : Int) : l_ref13_Right_1 N (m + 1) (l, i) = cond (decide (i < (((List.length l) : Nat) : Int)))
   (obind (nthI l i) fun z1 =>
    cond (decide (z1 < (0 : Int)))
     (some (.inr false))
     (obind (nthI l i) fun z2 =>
      cond (decide ((10000 : Int) < z2))
       (some (.inr false))
       (obind (subI l (0 : Int) i) fun z3 =>
        obind (nthI l i) fun z4 =>
        obind (m_ref13_Place N (z3, z4)) fun z5 =>
        cond (decide ((0 : Int) ≤ z5))
         (some (.inr false))
         ((l_ref13_Right_1 N m (l, (IntKind.wrap .i64 (i + (1 : Int)))))))))
   (some (.inl ())) := by kernel_rfl
theorem m_ref13_Right_eq (N : Nat) (l : (List Int)) : m_ref13_Right (N + 1) (l) = cond (decide ((1000 : Int) < (((List.length l) : Nat) : Int)))
   (some false)
   (obind (l_ref13_Right_1 N N (l, (0 : Int))) fun z1 =>
    (match z1 with
    | .inl zy2 => some true
    | .inr zy3 => some zy3)) := by kernel_rfl
theorem c_ref13_Right_ok (N : Nat) : (c_ref13_Right N).ok Try.prog := exF_ok (T := T) (CT := ct_ref13_Right) (N := N) (fun M => ⟨tOk, (ctAll_cons (c_ref13_Place_ok M) ctAll_nil), mixed⟩) Try.func55 (by kernel_rfl) (by kernel_rfl) p_ref13_Right [.h (.sl (.i .i64))] [] [(.sl (.i .i64))] r_ref13_Right false true [] (by kernel_rfl) (fun y => by kernel_rfl) (fun _ => ⟨rfl, rfl⟩) (fun y => by kernel_rfl) (m_ref13_Right N) (fun x => by kernel_rfl)
/-! archipelago/archipelagoref14.Build -/
noncomputable def ct_ref14_Build (N : Nat) : List Ctr := [c_ref13_Right N]
def i_ref14_Build_4 : PS := ⟨[(1, .h (.sl (.i .i64))), (4, .k (.pt 900 0)), (6, .h (.i .i64)), (8, .k (.pt 901 0)), (9, .h (.i .i64)), (10, .k (.ow 904)), (11, .h (.i .i64)), (12, .h (.i .i64))], [(900, .box 25 [.k .nil, .k .nil, .k .nil]), (901, .box 25 [.k (.ow 902), .k (.ow 903), .k (.ow 905)]), (904, .arr 3 (.i .i64) true), (902, .arr 3 (.i .i64) true), (903, .arr 3 (.i .i64) true), (905, .arr 22 (.sl (.i .i64)) true)], [(.sl (.i .i64)), (.i .i64), (.i .i64), (.i .i64), (.i .i64), (.sl (.i .i64)), (.sl (.i .i64)), (.sl (.i .i64)), (.sl (.sl (.i .i64)))]⟩
def o_ref14_Build_4 : List (Exit × PS) := [((.exit 6), ⟨[(1, .h (.sl (.i .i64))), (4, .k (.pt 900 0)), (6, .h (.i .i64)), (8, .k (.pt 901 0)), (9, .h (.i .i64)), (10, .k (.ow 902)), (11, .h (.i .i64)), (12, .h (.i .i64))], [(900, .box 25 [.k .nil, .k .nil, .k .nil]), (901, .box 25 [.k (.ow 903), .k (.ow 904), .k (.ow 905)]), (902, .arr 3 (.i .i64) true), (903, .arr 3 (.i .i64) true), (904, .arr 3 (.i .i64) true), (905, .arr 22 (.sl (.i .i64)) true)], [(.sl (.i .i64)), (.i .i64), (.i .i64), (.i .i64), (.i .i64), (.sl (.i .i64)), (.sl (.i .i64)), (.sl (.i .i64)), (.sl (.sl (.i .i64)))]⟩)]
def p_ref14_Build_4 : Pl := .z
noncomputable def l_ref14_Build_4 (N : Nat) : Nat → (List Int) × Int × Int × Int × Int × (List Int) × (List Int) × (List Int) × (List (List Int)) → Option ((List Int) × Int × Int × Int × Int × (List Int) × (List Int) × (List Int) × (List (List Int))) := loopF (exC T (ct_ref14_Build N) N (codeAt [1, 1, 1, 1, 1, 0, 1, 0, 0, 1, 0, 0, 1, 0, 1, 0, 0, 1, 0, 0, 1, 0, 0, 0] (bodyOf Try.f41))) 94 i_ref14_Build_4 o_ref14_Build_4 p_ref14_Build_4
def i_ref14_Build_3 : PS := ⟨[(1, .h (.sl (.i .i64))), (4, .k (.pt 900 0)), (6, .h (.i .i64)), (8, .k (.pt 901 0)), (9, .h (.i .i64)), (10, .k (.ow 904)), (11, .h (.i .i64))], [(900, .box 25 [.k .nil, .k .nil, .k .nil]), (901, .box 25 [.k (.ow 902), .k (.ow 903), .k (.ow 905)]), (904, .arr 3 (.i .i64) true), (902, .arr 3 (.i .i64) true), (903, .arr 3 (.i .i64) true), (905, .arr 22 (.sl (.i .i64)) true)], [(.sl (.i .i64)), (.i .i64), (.i .i64), (.i .i64), (.sl (.i .i64)), (.sl (.i .i64)), (.sl (.i .i64)), (.sl (.sl (.i .i64)))]⟩
def o_ref14_Build_3 : List (Exit × PS) := [((.exit 4), ⟨[(1, .h (.sl (.i .i64))), (4, .k (.pt 900 0)), (6, .h (.i .i64)), (8, .k (.pt 901 0)), (9, .h (.i .i64)), (10, .k (.ow 902))], [(900, .box 25 [.k .nil, .k .nil, .k .nil]), (901, .box 25 [.k (.ow 903), .k (.ow 904), .k (.ow 905)]), (902, .arr 3 (.i .i64) true), (903, .arr 3 (.i .i64) true), (904, .arr 3 (.i .i64) true), (905, .arr 22 (.sl (.i .i64)) true)], [(.sl (.i .i64)), (.i .i64), (.i .i64), (.sl (.i .i64)), (.sl (.i .i64)), (.sl (.i .i64)), (.sl (.sl (.i .i64)))]⟩)]
def p_ref14_Build_3 : Pl := (.n .z (.n (.n (.n .z (.n (.n (.loop i_ref14_Build_4 o_ref14_Build_4 p_ref14_Build_4) .z) .z)) .z) .z))
noncomputable def l_ref14_Build_3 (N : Nat) : Nat → (List Int) × Int × Int × Int × (List Int) × (List Int) × (List Int) × (List (List Int)) → Option ((List Int) × Int × Int × (List Int) × (List Int) × (List Int) × (List (List Int))) := loopF (exC T (ct_ref14_Build N) N (codeAt [1, 1, 1, 1, 1, 0, 1, 0, 0, 1, 0, 0, 1, 0, 1, 0, 0] (bodyOf Try.f41))) 94 i_ref14_Build_3 o_ref14_Build_3 p_ref14_Build_3
def i_ref14_Build_2 : PS := ⟨[(1, .h (.sl (.i .i64))), (4, .k (.pt 900 0)), (6, .h (.i .i64)), (8, .k (.pt 901 0)), (9, .h (.i .i64))], [(900, .box 25 [.k .nil, .k .nil, .k .nil]), (901, .box 25 [.k (.ow 902), .k (.ow 903), .k (.ow 904)]), (902, .arr 3 (.i .i64) true), (903, .arr 3 (.i .i64) true), (904, .arr 22 (.sl (.i .i64)) true)], [(.sl (.i .i64)), (.i .i64), (.i .i64), (.sl (.i .i64)), (.sl (.i .i64)), (.sl (.sl (.i .i64)))]⟩
def o_ref14_Build_2 : List (Exit × PS) := [((.exit 2), ⟨[(4, .k (.pt 900 0)), (8, .k (.pt 901 0))], [(900, .box 25 [.k .nil, .k .nil, .k .nil]), (901, .box 25 [.k (.ow 902), .k (.ow 903), .k (.ow 904)]), (902, .arr 3 (.i .i64) true), (903, .arr 3 (.i .i64) true), (904, .arr 22 (.sl (.i .i64)) true)], [(.sl (.i .i64)), (.sl (.i .i64)), (.sl (.sl (.i .i64)))]⟩)]
def p_ref14_Build_2 : Pl := (.n .z (.n (.n (.n .z (.n (.n .z (.n (.loop i_ref14_Build_3 o_ref14_Build_3 p_ref14_Build_3) .z)) .z)) .z) .z))
noncomputable def l_ref14_Build_2 (N : Nat) : Nat → (List Int) × Int × Int × (List Int) × (List Int) × (List (List Int)) → Option ((List Int) × (List Int) × (List (List Int))) := loopF (exC T (ct_ref14_Build N) N (codeAt [1, 1, 1, 1, 1, 0, 1, 0, 0] (bodyOf Try.f41))) 94 i_ref14_Build_2 o_ref14_Build_2 p_ref14_Build_2
def i_ref14_Build_1 : PS := ⟨[(0, .h (.sl (.i .i64))), (1, .h (.sl (.i .i64))), (4, .k (.pt 900 0)), (6, .h (.i .i64)), (7, .h (.i .i64))], [(900, .box 25 [.k .nil, .k .nil, .k .nil])], [(.sl (.i .i64)), (.sl (.i .i64)), (.i .i64), (.i .i64)]⟩
def o_ref14_Build_1 : List (Exit × PS) := [((.exit 0), ⟨[(0, .h (.sl (.i .i64))), (1, .h (.sl (.i .i64))), (4, .k (.pt 900 0)), (6, .h (.i .i64))], [(900, .box 25 [.k .nil, .k .nil, .k .nil])], [(.sl (.i .i64)), (.sl (.i .i64)), (.i .i64)]⟩), (.ret, ⟨[(4, .k (.pt 900 0)), (5, .h (.i .i64))], [(900, .box 25 [.k .nil, .k .nil, .k .nil])], [(.i .i64)]⟩)]
def p_ref14_Build_1 : Pl := .z
noncomputable def l_ref14_Build_1 (N : Nat) : Nat → (List Int) × (List Int) × Int × Int → Option (((List Int) × (List Int) × Int) ⊕ (Int)) := loopF (exC T (ct_ref14_Build N) N (codeAt [1, 1, 1, 0, 1, 0, 0] (bodyOf Try.f41))) 94 i_ref14_Build_1 o_ref14_Build_1 p_ref14_Build_1
def p_ref14_Build : Pl := (.n .z (.n .z (.n .z (.n (.n .z (.n (.loop i_ref14_Build_1 o_ref14_Build_1 p_ref14_Build_1) .z)) (.n .z (.n (.n .z (.n (.loop i_ref14_Build_2 o_ref14_Build_2 p_ref14_Build_2) .z)) .z))))))
def r_ref14_Build : PS := ⟨[(4, .k (.pt 900 0)), (5, .h (.i .i64))], [(900, .box 25 [.h (.sl (.i .i64)), .h (.sl (.i .i64)), .h (.sl (.sl (.i .i64)))])], [(.i .i64), (.sl (.i .i64)), (.sl (.i .i64)), (.sl (.sl (.i .i64)))]⟩
noncomputable def m_ref14_Build (N : Nat) : (List Int) × (List Int) → Option (Int × (List Int) × (List Int) × (List (List Int))) := exF T ct_ref14_Build N (bodyOf Try.f41) 94 p_ref14_Build [.h (.sl (.i .i64)), .h (.sl (.i .i64))] [] [(.sl (.i .i64)), (.sl (.i .i64))] r_ref14_Build
noncomputable def c_ref14_Build (N : Nat) : Ctr := ⟨41, [.h (.sl (.i .i64)), .h (.sl (.i .i64))], [], [(.sl (.i .i64)), (.sl (.i .i64))], Tup r_ref14_Build.c, m_ref14_Build N, fun y _ k => k (resG T (mkPS 94 r_ref14_Build y) Try.f41.results.toList) (keepH' [] (mkPS 94 r_ref14_Build y).h), false, false⟩
theorem l_ref14_Build_4_z (N : Nat) (v : (List Int) × Int × Int × Int × Int × (List Int) × (List Int) × (List Int) × (List (List Int))) : l_ref14_Build_4 N 0 v = none := by kernel_rfl
theorem l_ref14_Build_4_s (N m : Nat) (heights : (List Int)) (n : Int) (i : Int) (h : Int) (k : Int) (l : (List Int)) (v902 : (List Int)) (v903 : (List Int)) (v905 : (List (List Int))) : l_ref14_Build_4 N (m + 1) (heights, n, i, h, k, l, v902, v903, v905) = obind (remI (IntKind.wrap .i64 (i + k)) n) fun z1 =>
  obind (nthI heights z1) fun z2 =>
  cond (decide (z2 ≤ h))
   ((l_ref14_Build_4 N m (heights, (n, (i, (h, ((IntKind.wrap .i64 (k + (1 : Int))), (l, (v902, (v903, v905))))))))))
   (some (heights, (n, (i, (h, (k, (l, (v902, (v903, v905))))))))) := by kernel_rfl
theorem l_ref14_Build_3_z (N : Nat) (v : (List Int) × Int × Int × Int × (List Int) × (List Int) × (List Int) × (List (List Int))) : l_ref14_Build_3 N 0 v = none := by kernel_rfl
theorem l_ref14_Build_3_s (N m : Nat) (heights : (List Int)) (n : Int) (i : Int) (h : Int) (l : (List Int)) (v902 : (List Int)) (v903 : (List Int)) (v905 : (List (List Int))) : l_ref14_Build_3 N (m + 1) (heights, n, i, h, l, v902, v903, v905) = obind (nthI heights i) fun z1 =>
  cond (decide (h < z1))
   (obind (l_ref14_Build_4 N N (heights, (n, (i, (h, ((1 : Int), (l, (v902, (v903, v905))))))))) fun z2 =>
    obind (remI (IntKind.wrap .i64 (z2.2.2.1 + z2.2.2.2.2.1)) z2.2.1) fun z3 =>
    obind (appI (8 : Nat) z2.2.2.2.2.2.1 [z3]) fun z4 =>
    (l_ref14_Build_3 N m (z2.1, (z2.2.1, (z2.2.2.1, ((IntKind.wrap .i64 (z2.2.2.2.1 + (1 : Int))), (z4, (z2.2.2.2.2.2.2.1, (z2.2.2.2.2.2.2.2.1, z2.2.2.2.2.2.2.2.2)))))))))
   (some (heights, (n, (i, (l, (v902, (v903, v905))))))) := by kernel_rfl
theorem l_ref14_Build_2_z (N : Nat) (v : (List Int) × Int × Int × (List Int) × (List Int) × (List (List Int))) : l_ref14_Build_2 N 0 v = none := by kernel_rfl
theorem l_ref14_Build_2_s (N m : Nat) (heights : (List Int)) (n : Int) (i : Int) (v902 : (List Int)) (v903 : (List Int)) (v904 : (List (List Int))) : l_ref14_Build_2 N (m + 1) (heights, n, i, v902, v903, v904) = cond (decide (i < n))
   (obind (l_ref14_Build_3 N N (heights, (n, (i, ((0 : Int), ([], (v902, (v903, v904)))))))) fun z1 =>
    obind (appI (24 : Nat) z1.2.2.2.2.2.2 [z1.2.2.2.1]) fun z2 =>
    (l_ref14_Build_2 N m (z1.1, (z1.2.1, ((IntKind.wrap .i64 (z1.2.2.1 + (1 : Int))), (z1.2.2.2.2.1, (z1.2.2.2.2.2.1, z2)))))))
   (some (v902, (v903, v904))) := by kernel_rfl
theorem l_ref14_Build_1_z (N : Nat) (v : (List Int) × (List Int) × Int × Int) : l_ref14_Build_1 N 0 v = none := by kernel_rfl
theorem l_ref14_Build_1_s (N m : Nat) (tokens : (List Int)) (heights : (List Int)) (n : Int) (i : Int) : l_ref14_Build_1 N (m + 1) (tokens, heights, n, i) = cond (decide (i < n))
   (obind (nthI heights i) fun z1 =>
    cond (decide (z1 < (1 : Int)))
     (some (.inr (1 : Int)))
     (obind (nthI heights i) fun z2 =>
      cond (decide ((8 : Int) < z2))
       (some (.inr (1 : Int)))
       ((l_ref14_Build_1 N m (tokens, (heights, (n, (IntKind.wrap .i64 (i + (1 : Int))))))))))
   (some (.inl (tokens, (heights, n)))) := by kernel_rfl
theorem m_ref14_Build_eq (N : Nat) (tokens : (List Int)) (heights : (List Int)) : m_ref14_Build (N + 1) (tokens, heights) = obind (m_ref13_Right N tokens) fun z1 =>
  cond (!z1)
   (some ((1 : Int), ([], ([], []))))
   (cond (decide ((((List.length tokens) : Nat) : Int) = (0 : Int)))
     (some ((1 : Int), ([], ([], []))))
     (cond (!(decide ((((List.length heights) : Nat) : Int) = (((List.length tokens) : Nat) : Int))))
       (some ((1 : Int), ([], ([], []))))
       (obind (l_ref14_Build_1 N N (tokens, (heights, ((((List.length tokens) : Nat) : Int), (0 : Int))))) fun z2 =>
        (match z2 with
        | .inl zy3 => obind (appI (8 : Nat) [] zy3.1) fun z4 =>
          obind (appI (8 : Nat) [] zy3.2.1) fun z5 =>
          obind (l_ref14_Build_2 N N (zy3.2.1, (zy3.2.2, ((0 : Int), (z4, (z5, [])))))) fun z6 =>
          some ((0 : Int), (z6.1, (z6.2.1, z6.2.2)))
        | .inr zy7 => some (zy7, ([], ([], []))))))) := by kernel_rfl
theorem c_ref14_Build_ok (N : Nat) : (c_ref14_Build N).ok Try.prog := exF_ok (T := T) (CT := ct_ref14_Build) (N := N) (fun M => ⟨tOk, (ctAll_cons (c_ref13_Right_ok M) ctAll_nil), mixed⟩) Try.func41 (by kernel_rfl) (by kernel_rfl) p_ref14_Build [.h (.sl (.i .i64)), .h (.sl (.i .i64))] [] [(.sl (.i .i64)), (.sl (.i .i64))] r_ref14_Build false false [] (by kernel_rfl) (fun y => by kernel_rfl) (fun _ => ⟨rfl, rfl⟩) (fun y => by kernel_rfl) (m_ref14_Build N) (fun x => by kernel_rfl)
/-! archipelago/ring.Right$1 -/
noncomputable def ct_ring_RightF1 (N : Nat) : List Ctr := []
def p_ring_RightF1 : Pl := .z
def r_ring_RightF1 : PS := ⟨[(2, .h .b)], [], [.b]⟩
noncomputable def m_ring_RightF1 (N : Nat) : Int → Option (Bool) := exF T ct_ring_RightF1 N (bodyOf Try.f67) 9 p_ring_RightF1 [.h (.i .i64)] [] [(.i .i64)] r_ring_RightF1
noncomputable def c_ring_RightF1 (N : Nat) : Ctr := ⟨67, [.h (.i .i64)], [], [(.i .i64)], Tup r_ring_RightF1.c, m_ring_RightF1 N, fun y _ k => k (resG T (mkPS 9 r_ring_RightF1 y) Try.f67.results.toList) (keepH' [] (mkPS 9 r_ring_RightF1 y).h), false, true⟩
theorem m_ring_RightF1_eq (N : Nat) (t : Int) : m_ring_RightF1 (N + 1) (t) = cond (decide (t < (0 : Int)))
   (some true)
   (some (decide ((10000 : Int) < t))) := by kernel_rfl
theorem c_ring_RightF1_ok (N : Nat) : (c_ring_RightF1 N).ok Try.prog := exF_ok (T := T) (CT := ct_ring_RightF1) (N := N) (fun M => ⟨tOk, ctAll_nil, mixed⟩) Try.func67 (by kernel_rfl) (by kernel_rfl) p_ring_RightF1 [.h (.i .i64)] [] [(.i .i64)] r_ring_RightF1 false true [] (by kernel_rfl) (fun y => by kernel_rfl) (fun _ => ⟨rfl, rfl⟩) (fun y => by kernel_rfl) (m_ring_RightF1 N) (fun x => by kernel_rfl)
/-! slices.IndexFunc[[]int,int] -/
noncomputable def ct_slices_IndexFunc_Lint_int_ring_RightF1 (N : Nat) : List Ctr := [c_ring_RightF1 N]
def i_slices_IndexFunc_Lint_int_ring_RightF1_1 : PS := ⟨[(0, .h (.sl (.i .i64))), (1, .k (.v (.func (.func 67) #[] #[]))), (7, .h (.i .i64)), (8, .h (.i .i64))], [], [(.sl (.i .i64)), (.i .i64), (.i .i64)]⟩
def o_slices_IndexFunc_Lint_int_ring_RightF1_1 : List (Exit × PS) := [((.exit 0), ⟨[], [], []⟩), (.ret, ⟨[(4, .h (.i .i64))], [], [(.i .i64)]⟩)]
def p_slices_IndexFunc_Lint_int_ring_RightF1_1 : Pl := .z
noncomputable def l_slices_IndexFunc_Lint_int_ring_RightF1_1 (N : Nat) : Nat → (List Int) × Int × Int → Option ((Unit) ⊕ (Int)) := loopF (exC T (ct_slices_IndexFunc_Lint_int_ring_RightF1 N) N (codeAt [1, 0, 1, 0, 0] (bodyOf Try.f60))) 19 i_slices_IndexFunc_Lint_int_ring_RightF1_1 o_slices_IndexFunc_Lint_int_ring_RightF1_1 p_slices_IndexFunc_Lint_int_ring_RightF1_1
def p_slices_IndexFunc_Lint_int_ring_RightF1 : Pl := (.n .z (.n (.n .z (.n (.loop i_slices_IndexFunc_Lint_int_ring_RightF1_1 o_slices_IndexFunc_Lint_int_ring_RightF1_1 p_slices_IndexFunc_Lint_int_ring_RightF1_1) .z)) .z))
def r_slices_IndexFunc_Lint_int_ring_RightF1 : PS := ⟨[(4, .h (.i .i64))], [], [(.i .i64)]⟩
noncomputable def m_slices_IndexFunc_Lint_int_ring_RightF1 (N : Nat) : (List Int) → Option (Int) := exF T ct_slices_IndexFunc_Lint_int_ring_RightF1 N (bodyOf Try.f60) 19 p_slices_IndexFunc_Lint_int_ring_RightF1 [.h (.sl (.i .i64)), .k (.v (.func (.func 67) #[] #[]))] [] [(.sl (.i .i64))] r_slices_IndexFunc_Lint_int_ring_RightF1
noncomputable def c_slices_IndexFunc_Lint_int_ring_RightF1 (N : Nat) : Ctr := ⟨60, [.h (.sl (.i .i64)), .k (.v (.func (.func 67) #[] #[]))], [], [(.sl (.i .i64))], Tup r_slices_IndexFunc_Lint_int_ring_RightF1.c, m_slices_IndexFunc_Lint_int_ring_RightF1 N, fun y _ k => k (resG T (mkPS 19 r_slices_IndexFunc_Lint_int_ring_RightF1 y) Try.f60.results.toList) (keepH' [] (mkPS 19 r_slices_IndexFunc_Lint_int_ring_RightF1 y).h), false, true⟩
theorem l_slices_IndexFunc_Lint_int_ring_RightF1_1_z (N : Nat) (v : (List Int) × Int × Int) : l_slices_IndexFunc_Lint_int_ring_RightF1_1 N 0 v = none := by kernel_rfl
theorem l_slices_IndexFunc_Lint_int_ring_RightF1_1_s (N m : Nat) (s : (List Int)) (v7 : Int) (v8 : Int) : l_slices_IndexFunc_Lint_int_ring_RightF1_1 N (m + 1) (s, v7, v8) = cond (decide (v8 < v7))
   (obind (nthI s v8) fun z1 =>
    obind (m_ring_RightF1 N z1) fun z2 =>
    cond z2
     (some (.inr v8))
     ((l_slices_IndexFunc_Lint_int_ring_RightF1_1 N m (s, (v7, (IntKind.wrap .i64 (v8 + (1 : Int))))))))
   (some (.inl ())) := by kernel_rfl
theorem m_slices_IndexFunc_Lint_int_ring_RightF1_eq (N : Nat) (s : (List Int)) : m_slices_IndexFunc_Lint_int_ring_RightF1 (N + 1) (s) = obind (l_slices_IndexFunc_Lint_int_ring_RightF1_1 N N (s, ((((List.length s) : Nat) : Int), (0 : Int)))) fun z1 =>
  (match z1 with
  | .inl zy2 => some (-(1 : Int))
  | .inr zy3 => some zy3) := by kernel_rfl
theorem c_slices_IndexFunc_Lint_int_ring_RightF1_ok (N : Nat) : (c_slices_IndexFunc_Lint_int_ring_RightF1 N).ok Try.prog := exF_ok (T := T) (CT := ct_slices_IndexFunc_Lint_int_ring_RightF1) (N := N) (fun M => ⟨tOk, (ctAll_cons (c_ring_RightF1_ok M) ctAll_nil), mixed⟩) Try.func60 (by kernel_rfl) (by kernel_rfl) p_slices_IndexFunc_Lint_int_ring_RightF1 [.h (.sl (.i .i64)), .k (.v (.func (.func 67) #[] #[]))] [] [(.sl (.i .i64))] r_slices_IndexFunc_Lint_int_ring_RightF1 false true [] (by kernel_rfl) (fun y => by kernel_rfl) (fun _ => ⟨rfl, rfl⟩) (fun y => by kernel_rfl) (m_slices_IndexFunc_Lint_int_ring_RightF1 N) (fun x => by kernel_rfl)
/-! slices.ContainsFunc[[]int,int] -/
noncomputable def ct_slices_ContainsFunc_Lint_int_ring_RightF1 (N : Nat) : List Ctr := [c_slices_IndexFunc_Lint_int_ring_RightF1 N]
def p_slices_ContainsFunc_Lint_int_ring_RightF1 : Pl := .z
def r_slices_ContainsFunc_Lint_int_ring_RightF1 : PS := ⟨[(4, .h .b)], [], [.b]⟩
noncomputable def m_slices_ContainsFunc_Lint_int_ring_RightF1 (N : Nat) : (List Int) → Option (Bool) := exF T ct_slices_ContainsFunc_Lint_int_ring_RightF1 N (bodyOf Try.f49) 9 p_slices_ContainsFunc_Lint_int_ring_RightF1 [.h (.sl (.i .i64)), .k (.v (.func (.func 67) #[] #[]))] [] [(.sl (.i .i64))] r_slices_ContainsFunc_Lint_int_ring_RightF1
noncomputable def c_slices_ContainsFunc_Lint_int_ring_RightF1 (N : Nat) : Ctr := ⟨49, [.h (.sl (.i .i64)), .k (.v (.func (.func 67) #[] #[]))], [], [(.sl (.i .i64))], Tup r_slices_ContainsFunc_Lint_int_ring_RightF1.c, m_slices_ContainsFunc_Lint_int_ring_RightF1 N, fun y _ k => k (resG T (mkPS 9 r_slices_ContainsFunc_Lint_int_ring_RightF1 y) Try.f49.results.toList) (keepH' [] (mkPS 9 r_slices_ContainsFunc_Lint_int_ring_RightF1 y).h), false, true⟩
theorem m_slices_ContainsFunc_Lint_int_ring_RightF1_eq (N : Nat) (s : (List Int)) : m_slices_ContainsFunc_Lint_int_ring_RightF1 (N + 1) (s) = obind (m_slices_IndexFunc_Lint_int_ring_RightF1 N s) fun z1 =>
  some (decide ((0 : Int) ≤ z1)) := by kernel_rfl
theorem c_slices_ContainsFunc_Lint_int_ring_RightF1_ok (N : Nat) : (c_slices_ContainsFunc_Lint_int_ring_RightF1 N).ok Try.prog := exF_ok (T := T) (CT := ct_slices_ContainsFunc_Lint_int_ring_RightF1) (N := N) (fun M => ⟨tOk, (ctAll_cons (c_slices_IndexFunc_Lint_int_ring_RightF1_ok M) ctAll_nil), mixed⟩) Try.func49 (by kernel_rfl) (by kernel_rfl) p_slices_ContainsFunc_Lint_int_ring_RightF1 [.h (.sl (.i .i64)), .k (.v (.func (.func 67) #[] #[]))] [] [(.sl (.i .i64))] r_slices_ContainsFunc_Lint_int_ring_RightF1 false true [] (by kernel_rfl) (fun y => by kernel_rfl) (fun _ => ⟨rfl, rfl⟩) (fun y => by kernel_rfl) (m_slices_ContainsFunc_Lint_int_ring_RightF1 N) (fun x => by kernel_rfl)
/-! archipelago/ring.once[int] -/
noncomputable def ct_ring_once_int (N : Nat) : List Ctr := []
def i_ring_once_int_1 : PS := ⟨[(0, .h (.sl (.i .i64))), (3, .k (.mp 900)), (7, .h (.sl (.i .i64))), (8, .h (.i .i64)), (9, .h (.i .i64))], [(900, .mp (.int .i64) (.i .i64) (.i .i64))], [(.sl (.i .i64)), (.sl (.i .i64)), (.i .i64), (.i .i64), (.sl (.pr (.i .i64) (.i .i64)))]⟩
def o_ring_once_int_1 : List (Exit × PS) := [((.exit 0), ⟨[(0, .h (.sl (.i .i64))), (3, .k (.mp 900))], [(900, .mp (.int .i64) (.i .i64) (.i .i64))], [(.sl (.i .i64)), (.sl (.pr (.i .i64) (.i .i64)))]⟩)]
def p_ring_once_int_1 : Pl := .z
noncomputable def l_ring_once_int_1 (N : Nat) : Nat → (List Int) × (List Int) × Int × Int × (List (Int × Int)) → Option ((List Int) × (List (Int × Int))) := loopF (exC T (ct_ring_once_int N) N (codeAt [1, 1, 0, 1, 0, 0] (bodyOf Try.f68))) 23 i_ring_once_int_1 o_ring_once_int_1 p_ring_once_int_1
def p_ring_once_int : Pl := (.n .z (.n .z (.n (.n .z (.n (.loop i_ring_once_int_1 o_ring_once_int_1 p_ring_once_int_1) .z)) .z)))
def r_ring_once_int : PS := ⟨[(2, .h .b)], [], [.b]⟩
noncomputable def m_ring_once_int (N : Nat) : (List Int) → Option (Bool) := exF T ct_ring_once_int N (bodyOf Try.f68) 23 p_ring_once_int [.h (.sl (.i .i64))] [] [(.sl (.i .i64))] r_ring_once_int
noncomputable def c_ring_once_int (N : Nat) : Ctr := ⟨68, [.h (.sl (.i .i64))], [], [(.sl (.i .i64))], Tup r_ring_once_int.c, m_ring_once_int N, fun y _ k => k (resG T (mkPS 23 r_ring_once_int y) Try.f68.results.toList) (keepH' [] (mkPS 23 r_ring_once_int y).h), false, true⟩
theorem l_ring_once_int_1_z (N : Nat) (v : (List Int) × (List Int) × Int × Int × (List (Int × Int))) : l_ring_once_int_1 N 0 v = none := by kernel_rfl
theorem l_ring_once_int_1_s (N m : Nat) (l : (List Int)) (v7 : (List Int)) (v8 : Int) (v9 : Int) (met : (List (Int × Int))) : l_ring_once_int_1 N (m + 1) (l, v7, v8, v9, met) = cond (decide (v9 < v8))
   (obind (nthI v7 v9) fun z1 =>
    (l_ring_once_int_1 N m (l, (v7, (v8, ((IntKind.wrap .i64 (v9 + (1 : Int))), (mput (.i .i64) met z1 (IntKind.wrap .i64 ((Option.getD (mget (.i .i64) met z1) (0 : Int)) + (1 : Int))))))))))
   (some (l, met)) := by kernel_rfl
theorem m_ring_once_int_eq (N : Nat) (l : (List Int)) : m_ring_once_int (N + 1) (l) = obind (l_ring_once_int_1 N N (l, (l, ((((List.length l) : Nat) : Int), ((0 : Int), []))))) fun z1 =>
  some (decide ((((List.length z1.2) : Nat) : Int) = (((List.length z1.1) : Nat) : Int))) := by kernel_rfl
theorem c_ring_once_int_ok (N : Nat) : (c_ring_once_int N).ok Try.prog := exF_ok (T := T) (CT := ct_ring_once_int) (N := N) (fun M => ⟨tOk, ctAll_nil, mixed⟩) Try.func68 (by kernel_rfl) (by kernel_rfl) p_ring_once_int [.h (.sl (.i .i64))] [] [(.sl (.i .i64))] r_ring_once_int false true [] (by kernel_rfl) (fun y => by kernel_rfl) (fun _ => ⟨rfl, rfl⟩) (fun y => by kernel_rfl) (m_ring_once_int N) (fun x => by kernel_rfl)
/-! archipelago/ring.Right -/
noncomputable def ct_ring_Right (N : Nat) : List Ctr := [c_slices_ContainsFunc_Lint_int_ring_RightF1 N, c_ring_once_int N]
def p_ring_Right : Pl := .z
def r_ring_Right : PS := ⟨[(2, .h .b)], [], [.b]⟩
noncomputable def m_ring_Right (N : Nat) : (List Int) → Option (Bool) := exF T ct_ring_Right N (bodyOf Try.f65) 15 p_ring_Right [.h (.sl (.i .i64))] [] [(.sl (.i .i64))] r_ring_Right
noncomputable def c_ring_Right (N : Nat) : Ctr := ⟨65, [.h (.sl (.i .i64))], [], [(.sl (.i .i64))], Tup r_ring_Right.c, m_ring_Right N, fun y _ k => k (resG T (mkPS 15 r_ring_Right y) Try.f65.results.toList) (keepH' [] (mkPS 15 r_ring_Right y).h), false, true⟩
theorem m_ring_Right_eq (N : Nat) (l : (List Int)) : m_ring_Right (N + 1) (l) = cond (decide ((1000 : Int) < (((List.length l) : Nat) : Int)))
   (some false)
   (obind (m_slices_ContainsFunc_Lint_int_ring_RightF1 N l) fun z1 =>
    cond (!z1)
     (obind (m_ring_once_int N l) fun z2 =>
      some z2)
     (some false)) := by kernel_rfl
theorem c_ring_Right_ok (N : Nat) : (c_ring_Right N).ok Try.prog := exF_ok (T := T) (CT := ct_ring_Right) (N := N) (fun M => ⟨tOk, (ctAll_cons (c_slices_ContainsFunc_Lint_int_ring_RightF1_ok M) (ctAll_cons (c_ring_once_int_ok M) ctAll_nil)), mixed⟩) Try.func65 (by kernel_rfl) (by kernel_rfl) p_ring_Right [.h (.sl (.i .i64))] [] [(.sl (.i .i64))] r_ring_Right false true [] (by kernel_rfl) (fun y => by kernel_rfl) (fun _ => ⟨rfl, rfl⟩) (fun y => by kernel_rfl) (m_ring_Right N) (fun x => by kernel_rfl)
/-! archipelago/tower.high -/
noncomputable def ct_tower_high (N : Nat) : List Ctr := []
def p_tower_high : Pl := .z
def r_tower_high : PS := ⟨[(2, .h .b)], [], [.b]⟩
noncomputable def m_tower_high (N : Nat) : Int → Option (Bool) := exF T ct_tower_high N (bodyOf Try.f64) 9 p_tower_high [.h (.i .i64)] [] [(.i .i64)] r_tower_high
noncomputable def c_tower_high (N : Nat) : Ctr := ⟨64, [.h (.i .i64)], [], [(.i .i64)], Tup r_tower_high.c, m_tower_high N, fun y _ k => k (resG T (mkPS 9 r_tower_high y) Try.f64.results.toList) (keepH' [] (mkPS 9 r_tower_high y).h), false, true⟩
theorem m_tower_high_eq (N : Nat) (h : Int) : m_tower_high (N + 1) (h) = cond (decide ((1 : Int) ≤ h))
   (some (decide (h ≤ (8 : Int))))
   (some false) := by kernel_rfl
theorem c_tower_high_ok (N : Nat) : (c_tower_high N).ok Try.prog := exF_ok (T := T) (CT := ct_tower_high) (N := N) (fun M => ⟨tOk, ctAll_nil, mixed⟩) Try.func64 (by kernel_rfl) (by kernel_rfl) p_tower_high [.h (.i .i64)] [] [(.i .i64)] r_tower_high false true [] (by kernel_rfl) (fun y => by kernel_rfl) (fun _ => ⟨rfl, rfl⟩) (fun y => by kernel_rfl) (m_tower_high N) (fun x => by kernel_rfl)
/-! archipelago/tower.Build$1 -/
noncomputable def ct_tower_BuildF1 (N : Nat) : List Ctr := [c_tower_high N]
def p_tower_BuildF1 : Pl := .z
def r_tower_BuildF1 : PS := ⟨[(2, .h .b)], [], [.b]⟩
noncomputable def m_tower_BuildF1 (N : Nat) : Int → Option (Bool) := exF T ct_tower_BuildF1 N (bodyOf Try.f63) 6 p_tower_BuildF1 [.h (.i .i64)] [] [(.i .i64)] r_tower_BuildF1
noncomputable def c_tower_BuildF1 (N : Nat) : Ctr := ⟨63, [.h (.i .i64)], [], [(.i .i64)], Tup r_tower_BuildF1.c, m_tower_BuildF1 N, fun y _ k => k (resG T (mkPS 6 r_tower_BuildF1 y) Try.f63.results.toList) (keepH' [] (mkPS 6 r_tower_BuildF1 y).h), false, true⟩
theorem m_tower_BuildF1_eq (N : Nat) (h : Int) : m_tower_BuildF1 (N + 1) (h) = obind (m_tower_high N h) fun z1 =>
  some (!z1) := by kernel_rfl
theorem c_tower_BuildF1_ok (N : Nat) : (c_tower_BuildF1 N).ok Try.prog := exF_ok (T := T) (CT := ct_tower_BuildF1) (N := N) (fun M => ⟨tOk, (ctAll_cons (c_tower_high_ok M) ctAll_nil), mixed⟩) Try.func63 (by kernel_rfl) (by kernel_rfl) p_tower_BuildF1 [.h (.i .i64)] [] [(.i .i64)] r_tower_BuildF1 false true [] (by kernel_rfl) (fun y => by kernel_rfl) (fun _ => ⟨rfl, rfl⟩) (fun y => by kernel_rfl) (m_tower_BuildF1 N) (fun x => by kernel_rfl)
/-! slices.IndexFunc[[]int,int] -/
noncomputable def ct_slices_IndexFunc_Lint_int_tower_BuildF1 (N : Nat) : List Ctr := [c_tower_BuildF1 N]
def i_slices_IndexFunc_Lint_int_tower_BuildF1_1 : PS := ⟨[(0, .h (.sl (.i .i64))), (1, .k (.v (.func (.func 63) #[] #[]))), (7, .h (.i .i64)), (8, .h (.i .i64))], [], [(.sl (.i .i64)), (.i .i64), (.i .i64)]⟩
def o_slices_IndexFunc_Lint_int_tower_BuildF1_1 : List (Exit × PS) := [((.exit 0), ⟨[], [], []⟩), (.ret, ⟨[(4, .h (.i .i64))], [], [(.i .i64)]⟩)]
def p_slices_IndexFunc_Lint_int_tower_BuildF1_1 : Pl := .z
noncomputable def l_slices_IndexFunc_Lint_int_tower_BuildF1_1 (N : Nat) : Nat → (List Int) × Int × Int → Option ((Unit) ⊕ (Int)) := loopF (exC T (ct_slices_IndexFunc_Lint_int_tower_BuildF1 N) N (codeAt [1, 0, 1, 0, 0] (bodyOf Try.f60))) 19 i_slices_IndexFunc_Lint_int_tower_BuildF1_1 o_slices_IndexFunc_Lint_int_tower_BuildF1_1 p_slices_IndexFunc_Lint_int_tower_BuildF1_1
def p_slices_IndexFunc_Lint_int_tower_BuildF1 : Pl := (.n .z (.n (.n .z (.n (.loop i_slices_IndexFunc_Lint_int_tower_BuildF1_1 o_slices_IndexFunc_Lint_int_tower_BuildF1_1 p_slices_IndexFunc_Lint_int_tower_BuildF1_1) .z)) .z))
def r_slices_IndexFunc_Lint_int_tower_BuildF1 : PS := ⟨[(4, .h (.i .i64))], [], [(.i .i64)]⟩
noncomputable def m_slices_IndexFunc_Lint_int_tower_BuildF1 (N : Nat) : (List Int) → Option (Int) := exF T ct_slices_IndexFunc_Lint_int_tower_BuildF1 N (bodyOf Try.f60) 19 p_slices_IndexFunc_Lint_int_tower_BuildF1 [.h (.sl (.i .i64)), .k (.v (.func (.func 63) #[] #[]))] [] [(.sl (.i .i64))] r_slices_IndexFunc_Lint_int_tower_BuildF1
noncomputable def c_slices_IndexFunc_Lint_int_tower_BuildF1 (N : Nat) : Ctr := ⟨60, [.h (.sl (.i .i64)), .k (.v (.func (.func 63) #[] #[]))], [], [(.sl (.i .i64))], Tup r_slices_IndexFunc_Lint_int_tower_BuildF1.c, m_slices_IndexFunc_Lint_int_tower_BuildF1 N, fun y _ k => k (resG T (mkPS 19 r_slices_IndexFunc_Lint_int_tower_BuildF1 y) Try.f60.results.toList) (keepH' [] (mkPS 19 r_slices_IndexFunc_Lint_int_tower_BuildF1 y).h), false, true⟩
theorem l_slices_IndexFunc_Lint_int_tower_BuildF1_1_z (N : Nat) (v : (List Int) × Int × Int) : l_slices_IndexFunc_Lint_int_tower_BuildF1_1 N 0 v = none := by kernel_rfl
theorem l_slices_IndexFunc_Lint_int_tower_BuildF1_1_s (N m : Nat) (s : (List Int)) (v7 : Int) (v8 : Int) : l_slices_IndexFunc_Lint_int_tower_BuildF1_1 N (m + 1) (s, v7, v8) = cond (decide (v8 < v7))
   (obind (nthI s v8) fun z1 =>
    obind (m_tower_BuildF1 N z1) fun z2 =>
    cond z2
     (some (.inr v8))
     ((l_slices_IndexFunc_Lint_int_tower_BuildF1_1 N m (s, (v7, (IntKind.wrap .i64 (v8 + (1 : Int))))))))
   (some (.inl ())) := by kernel_rfl
theorem m_slices_IndexFunc_Lint_int_tower_BuildF1_eq (N : Nat) (s : (List Int)) : m_slices_IndexFunc_Lint_int_tower_BuildF1 (N + 1) (s) = obind (l_slices_IndexFunc_Lint_int_tower_BuildF1_1 N N (s, ((((List.length s) : Nat) : Int), (0 : Int)))) fun z1 =>
  (match z1 with
  | .inl zy2 => some (-(1 : Int))
  | .inr zy3 => some zy3) := by kernel_rfl
theorem c_slices_IndexFunc_Lint_int_tower_BuildF1_ok (N : Nat) : (c_slices_IndexFunc_Lint_int_tower_BuildF1 N).ok Try.prog := exF_ok (T := T) (CT := ct_slices_IndexFunc_Lint_int_tower_BuildF1) (N := N) (fun M => ⟨tOk, (ctAll_cons (c_tower_BuildF1_ok M) ctAll_nil), mixed⟩) Try.func60 (by kernel_rfl) (by kernel_rfl) p_slices_IndexFunc_Lint_int_tower_BuildF1 [.h (.sl (.i .i64)), .k (.v (.func (.func 63) #[] #[]))] [] [(.sl (.i .i64))] r_slices_IndexFunc_Lint_int_tower_BuildF1 false true [] (by kernel_rfl) (fun y => by kernel_rfl) (fun _ => ⟨rfl, rfl⟩) (fun y => by kernel_rfl) (m_slices_IndexFunc_Lint_int_tower_BuildF1 N) (fun x => by kernel_rfl)
/-! slices.ContainsFunc[[]int,int] -/
noncomputable def ct_slices_ContainsFunc_Lint_int_tower_BuildF1 (N : Nat) : List Ctr := [c_slices_IndexFunc_Lint_int_tower_BuildF1 N]
def p_slices_ContainsFunc_Lint_int_tower_BuildF1 : Pl := .z
def r_slices_ContainsFunc_Lint_int_tower_BuildF1 : PS := ⟨[(4, .h .b)], [], [.b]⟩
noncomputable def m_slices_ContainsFunc_Lint_int_tower_BuildF1 (N : Nat) : (List Int) → Option (Bool) := exF T ct_slices_ContainsFunc_Lint_int_tower_BuildF1 N (bodyOf Try.f49) 9 p_slices_ContainsFunc_Lint_int_tower_BuildF1 [.h (.sl (.i .i64)), .k (.v (.func (.func 63) #[] #[]))] [] [(.sl (.i .i64))] r_slices_ContainsFunc_Lint_int_tower_BuildF1
noncomputable def c_slices_ContainsFunc_Lint_int_tower_BuildF1 (N : Nat) : Ctr := ⟨49, [.h (.sl (.i .i64)), .k (.v (.func (.func 63) #[] #[]))], [], [(.sl (.i .i64))], Tup r_slices_ContainsFunc_Lint_int_tower_BuildF1.c, m_slices_ContainsFunc_Lint_int_tower_BuildF1 N, fun y _ k => k (resG T (mkPS 9 r_slices_ContainsFunc_Lint_int_tower_BuildF1 y) Try.f49.results.toList) (keepH' [] (mkPS 9 r_slices_ContainsFunc_Lint_int_tower_BuildF1 y).h), false, true⟩
theorem m_slices_ContainsFunc_Lint_int_tower_BuildF1_eq (N : Nat) (s : (List Int)) : m_slices_ContainsFunc_Lint_int_tower_BuildF1 (N + 1) (s) = obind (m_slices_IndexFunc_Lint_int_tower_BuildF1 N s) fun z1 =>
  some (decide ((0 : Int) ≤ z1)) := by kernel_rfl
theorem c_slices_ContainsFunc_Lint_int_tower_BuildF1_ok (N : Nat) : (c_slices_ContainsFunc_Lint_int_tower_BuildF1 N).ok Try.prog := exF_ok (T := T) (CT := ct_slices_ContainsFunc_Lint_int_tower_BuildF1) (N := N) (fun M => ⟨tOk, (ctAll_cons (c_slices_IndexFunc_Lint_int_tower_BuildF1_ok M) ctAll_nil), mixed⟩) Try.func49 (by kernel_rfl) (by kernel_rfl) p_slices_ContainsFunc_Lint_int_tower_BuildF1 [.h (.sl (.i .i64)), .k (.v (.func (.func 63) #[] #[]))] [] [(.sl (.i .i64))] r_slices_ContainsFunc_Lint_int_tower_BuildF1 false true [] (by kernel_rfl) (fun y => by kernel_rfl) (fun _ => ⟨rfl, rfl⟩) (fun y => by kernel_rfl) (m_slices_ContainsFunc_Lint_int_tower_BuildF1 N) (fun x => by kernel_rfl)
/-! slices.Clone[[]int,int] -/
noncomputable def ct_slices_Clone_Lint_int (N : Nat) : List Ctr := []
def p_slices_Clone_Lint_int : Pl := .z
def r_slices_Clone_Lint_int : PS := ⟨[(2, .k (.ow 900))], [(900, .arr 3 (.i .i64) true)], [(.sl (.i .i64))]⟩
noncomputable def m_slices_Clone_Lint_int (N : Nat) : (List Int) → Option ((List Int)) := exF T ct_slices_Clone_Lint_int N (bodyOf Try.f66) 8 p_slices_Clone_Lint_int [.h (.sl (.i .i64))] [] [(.sl (.i .i64))] r_slices_Clone_Lint_int
noncomputable def c_slices_Clone_Lint_int (N : Nat) : Ctr := ⟨66, [.h (.sl (.i .i64))], [], [(.sl (.i .i64))], Tup r_slices_Clone_Lint_int.c, m_slices_Clone_Lint_int N, fun y _ k => k (resG T (mkPS 8 r_slices_Clone_Lint_int y) Try.f66.results.toList) (keepH' [900] (mkPS 8 r_slices_Clone_Lint_int y).h), true, true⟩
theorem m_slices_Clone_Lint_int_eq (N : Nat) (s : (List Int)) : m_slices_Clone_Lint_int (N + 1) (s) = cond (isNilB s)
   (dem fun zb1 =>
    cond zb1
     (some [])
     (obind (appI (8 : Nat) [] s) fun z2 =>
      some z2))
   (obind (appI (8 : Nat) [] s) fun z3 =>
    some z3) := by kernel_rfl
theorem c_slices_Clone_Lint_int_ok (N : Nat) : (c_slices_Clone_Lint_int N).ok Try.prog := exF_ok (T := T) (CT := ct_slices_Clone_Lint_int) (N := N) (fun M => ⟨tOk, ctAll_nil, mixed⟩) Try.func66 (by kernel_rfl) (by kernel_rfl) p_slices_Clone_Lint_int [.h (.sl (.i .i64))] [] [(.sl (.i .i64))] r_slices_Clone_Lint_int true true [900] (by kernel_rfl) (fun y => by kernel_rfl) (fun h => by cases h) (fun y => by kernel_rfl) (m_slices_Clone_Lint_int N) (fun x => by kernel_rfl)
/-! archipelago/tower.Build -/
noncomputable def ct_tower_Build (N : Nat) : List Ctr := [c_ring_Right N, c_slices_ContainsFunc_Lint_int_tower_BuildF1 N, c_slices_Clone_Lint_int N]
def i_tower_Build_3 : PS := ⟨[(1, .h (.sl (.i .i64))), (4, .k (.pt 900 0)), (6, .h (.i .i64)), (8, .k (.pt 901 0)), (9, .k (.pt 902 0)), (11, .h (.i .i64)), (42, .h (.i .i64)), (43, .h (.i .i64)), (68, .h (.i .i64)), (69, .h (.i .i64))], [(900, .box 25 [.k .nil, .k .nil, .k .nil]), (901, .box 25 [.k (.ow 903), .k (.ow 904), .k (.ow 905)]), (902, .arr 82 (.i .i64) true), (903, .arr 3 (.i .i64) true), (904, .arr 3 (.i .i64) true), (905, .arr 22 (.sl (.i .i64)) true)], [(.sl (.i .i64)), (.i .i64), (.i .i64), (.i .i64), (.i .i64), (.i .i64), (.i .i64), (.sl (.i .i64)), (.sl (.i .i64)), (.sl (.i .i64)), (.sl (.sl (.i .i64)))]⟩
def o_tower_Build_3 : List (Exit × PS) := [((.exit 2), ⟨[(1, .h (.sl (.i .i64))), (4, .k (.pt 900 0)), (6, .h (.i .i64)), (8, .k (.pt 901 0)), (9, .k (.pt 902 0)), (42, .h (.i .i64)), (43, .h (.i .i64))], [(900, .box 25 [.k .nil, .k .nil, .k .nil]), (901, .box 25 [.k (.ow 903), .k (.ow 904), .k (.ow 905)]), (902, .arr 82 (.i .i64) true), (903, .arr 3 (.i .i64) true), (904, .arr 3 (.i .i64) true), (905, .arr 22 (.sl (.i .i64)) true)], [(.sl (.i .i64)), (.i .i64), (.i .i64), (.i .i64), (.sl (.i .i64)), (.sl (.i .i64)), (.sl (.i .i64)), (.sl (.sl (.i .i64)))]⟩)]
def p_tower_Build_3 : Pl := .z
noncomputable def l_tower_Build_3 (N : Nat) : Nat → (List Int) × Int × Int × Int × Int × Int × Int × (List Int) × (List Int) × (List Int) × (List (List Int)) → Option ((List Int) × Int × Int × Int × (List Int) × (List Int) × (List Int) × (List (List Int))) := loopF (exC T (ct_tower_Build N) N (codeAt [1, 1, 1, 1, 1, 1, 0, 1, 0, 0, 1, 1, 0, 0, 1, 1, 1, 1, 0, 0] (bodyOf Try.f58))) 78 i_tower_Build_3 o_tower_Build_3 p_tower_Build_3
def i_tower_Build_2 : PS := ⟨[(1, .h (.sl (.i .i64))), (4, .k (.pt 900 0)), (6, .h (.i .i64)), (8, .k (.pt 901 0)), (9, .k (.pt 902 0)), (10, .h (.i .i64)), (11, .h (.i .i64)), (42, .h (.i .i64)), (43, .h (.i .i64))], [(900, .box 25 [.k .nil, .k .nil, .k .nil]), (901, .box 25 [.k (.ow 903), .k (.ow 904), .k (.ow 905)]), (902, .arr 82 (.i .i64) true), (903, .arr 3 (.i .i64) true), (904, .arr 3 (.i .i64) true), (905, .arr 22 (.sl (.i .i64)) true)], [(.sl (.i .i64)), (.i .i64), (.i .i64), (.i .i64), (.i .i64), (.i .i64), (.sl (.i .i64)), (.sl (.i .i64)), (.sl (.i .i64)), (.sl (.sl (.i .i64)))]⟩
def o_tower_Build_2 : List (Exit × PS) := [(.normal, ⟨[(1, .h (.sl (.i .i64))), (4, .k (.pt 900 0)), (6, .h (.i .i64)), (8, .k (.pt 901 0)), (9, .k (.pt 902 0)), (11, .h (.i .i64)), (42, .h (.i .i64)), (43, .h (.i .i64))], [(900, .box 25 [.k .nil, .k .nil, .k .nil]), (901, .box 25 [.k (.ow 903), .k (.ow 904), .k (.ow 905)]), (902, .arr 82 (.i .i64) true), (903, .arr 3 (.i .i64) true), (904, .arr 3 (.i .i64) true), (905, .arr 22 (.sl (.i .i64)) true)], [(.sl (.i .i64)), (.i .i64), (.i .i64), (.i .i64), (.i .i64), (.sl (.i .i64)), (.sl (.i .i64)), (.sl (.i .i64)), (.sl (.sl (.i .i64)))]⟩)]
def p_tower_Build_2 : Pl := .z
noncomputable def l_tower_Build_2 (N : Nat) : Nat → (List Int) × Int × Int × Int × Int × Int × (List Int) × (List Int) × (List Int) × (List (List Int)) → Option ((List Int) × Int × Int × Int × Int × (List Int) × (List Int) × (List Int) × (List (List Int))) := joinF (exC0 T (ct_tower_Build N) N (codeAt [1, 1, 1, 1, 1, 1, 0, 1, 0, 0, 1, 1, 0, 0, 1, 1, 0] (bodyOf Try.f58))) 78 i_tower_Build_2 o_tower_Build_2 p_tower_Build_2
def i_tower_Build_1 : PS := ⟨[(1, .h (.sl (.i .i64))), (4, .k (.pt 900 0)), (6, .h (.i .i64)), (8, .k (.pt 901 0)), (9, .k (.pt 902 0)), (42, .h (.i .i64)), (43, .h (.i .i64))], [(900, .box 25 [.k .nil, .k .nil, .k .nil]), (901, .box 25 [.k (.ow 903), .k (.ow 904), .k (.ow 905)]), (902, .arr 82 (.i .i64) true), (903, .arr 3 (.i .i64) true), (904, .arr 3 (.i .i64) true), (905, .arr 22 (.sl (.i .i64)) true)], [(.sl (.i .i64)), (.i .i64), (.i .i64), (.i .i64), (.sl (.i .i64)), (.sl (.i .i64)), (.sl (.i .i64)), (.sl (.sl (.i .i64)))]⟩
def o_tower_Build_1 : List (Exit × PS) := [((.exit 0), ⟨[(4, .k (.pt 900 0)), (8, .k (.pt 901 0))], [(900, .box 25 [.k .nil, .k .nil, .k .nil]), (901, .box 25 [.k (.ow 902), .k (.ow 903), .k (.ow 904)]), (902, .arr 3 (.i .i64) true), (903, .arr 3 (.i .i64) true), (904, .arr 22 (.sl (.i .i64)) true)], [(.sl (.i .i64)), (.sl (.i .i64)), (.sl (.sl (.i .i64)))]⟩)]
def p_tower_Build_1 : Pl := (.n .z (.n .z (.n (.n (.n .z (.n .z (.n (.join i_tower_Build_2 o_tower_Build_2 p_tower_Build_2) (.n .z (.n (.loop i_tower_Build_3 o_tower_Build_3 p_tower_Build_3) .z))))) .z) .z)))
noncomputable def l_tower_Build_1 (N : Nat) : Nat → (List Int) × Int × Int × Int × (List Int) × (List Int) × (List Int) × (List (List Int)) → Option ((List Int) × (List Int) × (List (List Int))) := loopF (exC T (ct_tower_Build N) N (codeAt [1, 1, 1, 1, 1, 1, 0, 1, 0, 0] (bodyOf Try.f58))) 78 i_tower_Build_1 o_tower_Build_1 p_tower_Build_1
def p_tower_Build : Pl := (.n .z (.n .z (.n .z (.n .z (.n .z (.n .z (.n (.n .z (.n (.loop i_tower_Build_1 o_tower_Build_1 p_tower_Build_1) .z)) .z)))))))
def r_tower_Build : PS := ⟨[(4, .k (.pt 900 0)), (5, .h (.i .i64))], [(900, .box 25 [.h (.sl (.i .i64)), .h (.sl (.i .i64)), .h (.sl (.sl (.i .i64)))])], [(.i .i64), (.sl (.i .i64)), (.sl (.i .i64)), (.sl (.sl (.i .i64)))]⟩
noncomputable def m_tower_Build (N : Nat) : (List Int) × (List Int) → Option (Int × (List Int) × (List Int) × (List (List Int))) := exF T ct_tower_Build N (bodyOf Try.f58) 78 p_tower_Build [.h (.sl (.i .i64)), .h (.sl (.i .i64))] [] [(.sl (.i .i64)), (.sl (.i .i64))] r_tower_Build
noncomputable def c_tower_Build (N : Nat) : Ctr := ⟨58, [.h (.sl (.i .i64)), .h (.sl (.i .i64))], [], [(.sl (.i .i64)), (.sl (.i .i64))], Tup r_tower_Build.c, m_tower_Build N, fun y _ k => k (resG T (mkPS 78 r_tower_Build y) Try.f58.results.toList) (keepH' [] (mkPS 78 r_tower_Build y).h), false, false⟩
theorem l_tower_Build_3_z (N : Nat) (v : (List Int) × Int × Int × Int × Int × Int × Int × (List Int) × (List Int) × (List Int) × (List (List Int))) : l_tower_Build_3 N 0 v = none := by kernel_rfl
theorem l_tower_Build_3_s (N m : Nat) (heights : (List Int)) (n : Int) (i : Int) (v42 : Int) (v43 : Int) (v68 : Int) (v69 : Int) (behind : (List Int)) (v903 : (List Int)) (v904 : (List Int)) (v905 : (List (List Int))) : l_tower_Build_3 N (m + 1) (heights, n, i, v42, v43, v68, v69, behind, v903, v904, v905) = cond (decide (v69 < v68))
   (obind (nthI (List.range (8 : Nat)) v69) fun z1 =>
    obind (nthI behind v69) fun z2 =>
    obind (nthI behind v69) fun z3 =>
    (l_tower_Build_3 N m (heights, (n, (i, (v42, (v43, (v68, ((IntKind.wrap .i64 (v69 + (1 : Int))), ((List.set behind (Int.toNat v69) i), (v903, (v904, v905))))))))))))
   (some (heights, (n, (v42, (v43, (behind, (v903, (v904, v905)))))))) := by kernel_rfl
theorem l_tower_Build_2_s (N m : Nat) (heights : (List Int)) (n : Int) (k : Int) (i : Int) (v42 : Int) (v43 : Int) (behind : (List Int)) (v903 : (List Int)) (v904 : (List Int)) (v905 : (List (List Int))) : l_tower_Build_2 N (m + 1) (heights, n, k, i, v42, v43, behind, v903, v904, v905) = cond (decide (n ≤ k))
   (obind (nthI heights i) fun z1 =>
    obind (subI (List.replicate (8 : Nat) ()) (0 : Int) z1) fun z2 =>
    cond ((Nat.ble ((Int.toNat (0 : Int)) + (Int.toNat (z1 - (0 : Int)))) (List.length behind)) && true)
     (obind (m_slices_Clone_Lint_int N (List.take (Int.toNat (z1 - (0 : Int))) (List.drop (Int.toNat (0 : Int)) behind))) fun z3 =>
      obind (nthI v905 i) fun z4 =>
      obind (nthI v905 i) fun z5 =>
      some (heights, (n, (i, (v42, (v43, (behind, (v903, (v904, (List.set v905 (Int.toNat i) z3))))))))))
     (none))
   (some (heights, (n, (i, (v42, (v43, (behind, (v903, (v904, v905))))))))) := by kernel_rfl
theorem l_tower_Build_1_z (N : Nat) (v : (List Int) × Int × Int × Int × (List Int) × (List Int) × (List Int) × (List (List Int))) : l_tower_Build_1 N 0 v = none := by kernel_rfl
theorem l_tower_Build_1_s (N m : Nat) (heights : (List Int)) (n : Int) (v42 : Int) (v43 : Int) (behind : (List Int)) (v903 : (List Int)) (v904 : (List Int)) (v905 : (List (List Int))) : l_tower_Build_1 N (m + 1) (heights, n, v42, v43, behind, v903, v904, v905) = cond (decide (v43 < v42))
   (obind (remI v43 n) fun z1 =>
    obind (l_tower_Build_2 N N (heights, (n, (v43, ((IntKind.wrap .i64 ((IntKind.wrap .i64 (n - (1 : Int))) - z1)), (v42, (v43, (behind, (v903, (v904, v905)))))))))) fun z2 =>
    obind (nthI z2.1 z2.2.2.1) fun z3 =>
    obind (l_tower_Build_3 N N (z2.1, (z2.2.1, (z2.2.2.1, (z2.2.2.2.1, (z2.2.2.2.2.1, (z3, ((0 : Int), (z2.2.2.2.2.2.1, (z2.2.2.2.2.2.2.1, (z2.2.2.2.2.2.2.2.1, z2.2.2.2.2.2.2.2.2))))))))))) fun z4 =>
    (l_tower_Build_1 N m (z4.1, (z4.2.1, (z4.2.2.1, ((IntKind.wrap .i64 (z4.2.2.2.1 + (1 : Int))), (z4.2.2.2.2.1, (z4.2.2.2.2.2.1, (z4.2.2.2.2.2.2.1, z4.2.2.2.2.2.2.2)))))))))
   (some (v903, (v904, v905))) := by kernel_rfl
theorem m_tower_Build_eq (N : Nat) (tokens : (List Int)) (heights : (List Int)) : m_tower_Build (N + 1) (tokens, heights) = cond (decide ((((List.length tokens) : Nat) : Int) = (0 : Int)))
   (some ((1 : Int), ([], ([], []))))
   (cond (!(decide ((((List.length heights) : Nat) : Int) = (((List.length tokens) : Nat) : Int))))
     (some ((1 : Int), ([], ([], []))))
     (obind (m_ring_Right N tokens) fun z1 =>
      cond (!z1)
       (some ((1 : Int), ([], ([], []))))
       (obind (m_slices_ContainsFunc_Lint_int_tower_BuildF1 N heights) fun z2 =>
        cond z2
         (some ((1 : Int), ([], ([], []))))
         (obind (m_slices_Clone_Lint_int N tokens) fun z3 =>
          obind (m_slices_Clone_Lint_int N heights) fun z4 =>
          obind (makI (((List.length tokens) : Nat) : Int) (24 : Nat)) fun z5 =>
          obind (l_tower_Build_1 N N (heights, ((((List.length tokens) : Nat) : Int), ((IntKind.wrap .i64 ((2 : Int) * (((List.length tokens) : Nat) : Int))), ((0 : Int), ((List.replicate (8 : Nat) (0 : Int)), (z3, (z4, (List.replicate z5 []))))))))) fun z6 =>
          some ((0 : Int), (z6.1, (z6.2.1, z6.2.2))))))) := by kernel_rfl
theorem c_tower_Build_ok (N : Nat) : (c_tower_Build N).ok Try.prog := exF_ok (T := T) (CT := ct_tower_Build) (N := N) (fun M => ⟨tOk, (ctAll_cons (c_ring_Right_ok M) (ctAll_cons (c_slices_ContainsFunc_Lint_int_tower_BuildF1_ok M) (ctAll_cons (c_slices_Clone_Lint_int_ok M) ctAll_nil))), mixed⟩) Try.func58 (by kernel_rfl) (by kernel_rfl) p_tower_Build [.h (.sl (.i .i64)), .h (.sl (.i .i64))] [] [(.sl (.i .i64)), (.sl (.i .i64))] r_tower_Build false false [] (by kernel_rfl) (fun y => by kernel_rfl) (fun _ => ⟨rfl, rfl⟩) (fun y => by kernel_rfl) (m_tower_Build N) (fun x => by kernel_rfl)
/-! slices.Equal[[]int,int] -/
noncomputable def ct_slices_Equal_Lint_int (N : Nat) : List Ctr := []
def i_slices_Equal_Lint_int_1 : PS := ⟨[(0, .h (.sl (.i .i64))), (1, .h (.sl (.i .i64))), (12, .h (.i .i64)), (13, .h (.i .i64))], [], [(.sl (.i .i64)), (.sl (.i .i64)), (.i .i64), (.i .i64)]⟩
def o_slices_Equal_Lint_int_1 : List (Exit × PS) := [((.exit 0), ⟨[], [], []⟩), (.ret, ⟨[(4, .h .b)], [], [.b]⟩)]
def p_slices_Equal_Lint_int_1 : Pl := .z
noncomputable def l_slices_Equal_Lint_int_1 (N : Nat) : Nat → (List Int) × (List Int) × Int × Int → Option ((Unit) ⊕ (Bool)) := loopF (exC T (ct_slices_Equal_Lint_int N) N (codeAt [1, 1, 0, 1, 0, 0] (bodyOf Try.f47))) 26 i_slices_Equal_Lint_int_1 o_slices_Equal_Lint_int_1 p_slices_Equal_Lint_int_1
def p_slices_Equal_Lint_int : Pl := (.n .z (.n .z (.n (.n .z (.n (.loop i_slices_Equal_Lint_int_1 o_slices_Equal_Lint_int_1 p_slices_Equal_Lint_int_1) .z)) .z)))
def r_slices_Equal_Lint_int : PS := ⟨[(4, .h .b)], [], [.b]⟩
noncomputable def m_slices_Equal_Lint_int (N : Nat) : (List Int) × (List Int) → Option (Bool) := exF T ct_slices_Equal_Lint_int N (bodyOf Try.f47) 26 p_slices_Equal_Lint_int [.h (.sl (.i .i64)), .h (.sl (.i .i64))] [] [(.sl (.i .i64)), (.sl (.i .i64))] r_slices_Equal_Lint_int
noncomputable def c_slices_Equal_Lint_int (N : Nat) : Ctr := ⟨47, [.h (.sl (.i .i64)), .h (.sl (.i .i64))], [], [(.sl (.i .i64)), (.sl (.i .i64))], Tup r_slices_Equal_Lint_int.c, m_slices_Equal_Lint_int N, fun y _ k => k (resG T (mkPS 26 r_slices_Equal_Lint_int y) Try.f47.results.toList) (keepH' [] (mkPS 26 r_slices_Equal_Lint_int y).h), false, true⟩
theorem l_slices_Equal_Lint_int_1_z (N : Nat) (v : (List Int) × (List Int) × Int × Int) : l_slices_Equal_Lint_int_1 N 0 v = none := by kernel_rfl
theorem l_slices_Equal_Lint_int_1_s (N m : Nat) (s1 : (List Int)) (s2 : (List Int)) (v12 : Int) (v13 : Int) : l_slices_Equal_Lint_int_1 N (m + 1) (s1, s2, v12, v13) = cond (decide (v13 < v12))
   (obind (nthI s1 v13) fun z1 =>
    obind (nthI s2 v13) fun z2 =>
    cond (!(decide (z1 = z2)))
     (some (.inr false))
     ((l_slices_Equal_Lint_int_1 N m (s1, (s2, (v12, (IntKind.wrap .i64 (v13 + (1 : Int)))))))))
   (some (.inl ())) := by kernel_rfl
theorem m_slices_Equal_Lint_int_eq (N : Nat) (s1 : (List Int)) (s2 : (List Int)) : m_slices_Equal_Lint_int (N + 1) (s1, s2) = cond (!(decide ((((List.length s1) : Nat) : Int) = (((List.length s2) : Nat) : Int))))
   (some false)
   (obind (l_slices_Equal_Lint_int_1 N N (s1, (s2, ((((List.length s1) : Nat) : Int), (0 : Int))))) fun z1 =>
    (match z1 with
    | .inl zy2 => some true
    | .inr zy3 => some zy3)) := by kernel_rfl
theorem c_slices_Equal_Lint_int_ok (N : Nat) : (c_slices_Equal_Lint_int N).ok Try.prog := exF_ok (T := T) (CT := ct_slices_Equal_Lint_int) (N := N) (fun M => ⟨tOk, ctAll_nil, mixed⟩) Try.func47 (by kernel_rfl) (by kernel_rfl) p_slices_Equal_Lint_int [.h (.sl (.i .i64)), .h (.sl (.i .i64))] [] [(.sl (.i .i64)), (.sl (.i .i64))] r_slices_Equal_Lint_int false true [] (by kernel_rfl) (fun y => by kernel_rfl) (fun _ => ⟨rfl, rfl⟩) (fun y => by kernel_rfl) (m_slices_Equal_Lint_int N) (fun x => by kernel_rfl)
/-! slices.EqualFunc[[][]int,[][]int,[]int,[]int] -/
noncomputable def ct_slices_EqualFunc_LLint_LLint_Lint_Lint_slices_Equal_Lint_int (N : Nat) : List Ctr := [c_slices_Equal_Lint_int N]
def i_slices_EqualFunc_LLint_LLint_Lint_Lint_slices_Equal_Lint_int_1 : PS := ⟨[(1, .h (.sl (.sl (.i .i64)))), (2, .k (.v (.func (.func 47) #[] #[]))), (15, .h (.sl (.sl (.i .i64)))), (16, .h (.i .i64)), (17, .h (.i .i64))], [], [(.sl (.sl (.i .i64))), (.sl (.sl (.i .i64))), (.i .i64), (.i .i64)]⟩
def o_slices_EqualFunc_LLint_LLint_Lint_Lint_slices_Equal_Lint_int_1 : List (Exit × PS) := [((.exit 0), ⟨[], [], []⟩), (.ret, ⟨[(6, .h .b)], [], [.b]⟩)]
def p_slices_EqualFunc_LLint_LLint_Lint_Lint_slices_Equal_Lint_int_1 : Pl := .z
noncomputable def l_slices_EqualFunc_LLint_LLint_Lint_Lint_slices_Equal_Lint_int_1 (N : Nat) : Nat → (List (List Int)) × (List (List Int)) × Int × Int → Option ((Unit) ⊕ (Bool)) := loopF (exC T (ct_slices_EqualFunc_LLint_LLint_Lint_Lint_slices_Equal_Lint_int N) N (codeAt [1, 1, 0, 1, 0, 0] (bodyOf Try.f46))) 32 i_slices_EqualFunc_LLint_LLint_Lint_Lint_slices_Equal_Lint_int_1 o_slices_EqualFunc_LLint_LLint_Lint_Lint_slices_Equal_Lint_int_1 p_slices_EqualFunc_LLint_LLint_Lint_Lint_slices_Equal_Lint_int_1
def p_slices_EqualFunc_LLint_LLint_Lint_Lint_slices_Equal_Lint_int : Pl := (.n .z (.n .z (.n (.n .z (.n (.loop i_slices_EqualFunc_LLint_LLint_Lint_Lint_slices_Equal_Lint_int_1 o_slices_EqualFunc_LLint_LLint_Lint_Lint_slices_Equal_Lint_int_1 p_slices_EqualFunc_LLint_LLint_Lint_Lint_slices_Equal_Lint_int_1) .z)) .z)))
def r_slices_EqualFunc_LLint_LLint_Lint_Lint_slices_Equal_Lint_int : PS := ⟨[(6, .h .b)], [], [.b]⟩
noncomputable def m_slices_EqualFunc_LLint_LLint_Lint_Lint_slices_Equal_Lint_int (N : Nat) : (List (List Int)) × (List (List Int)) → Option (Bool) := exF T ct_slices_EqualFunc_LLint_LLint_Lint_Lint_slices_Equal_Lint_int N (bodyOf Try.f46) 32 p_slices_EqualFunc_LLint_LLint_Lint_Lint_slices_Equal_Lint_int [.h (.sl (.sl (.i .i64))), .h (.sl (.sl (.i .i64))), .k (.v (.func (.func 47) #[] #[]))] [] [(.sl (.sl (.i .i64))), (.sl (.sl (.i .i64)))] r_slices_EqualFunc_LLint_LLint_Lint_Lint_slices_Equal_Lint_int
noncomputable def c_slices_EqualFunc_LLint_LLint_Lint_Lint_slices_Equal_Lint_int (N : Nat) : Ctr := ⟨46, [.h (.sl (.sl (.i .i64))), .h (.sl (.sl (.i .i64))), .k (.v (.func (.func 47) #[] #[]))], [], [(.sl (.sl (.i .i64))), (.sl (.sl (.i .i64)))], Tup r_slices_EqualFunc_LLint_LLint_Lint_Lint_slices_Equal_Lint_int.c, m_slices_EqualFunc_LLint_LLint_Lint_Lint_slices_Equal_Lint_int N, fun y _ k => k (resG T (mkPS 32 r_slices_EqualFunc_LLint_LLint_Lint_Lint_slices_Equal_Lint_int y) Try.f46.results.toList) (keepH' [] (mkPS 32 r_slices_EqualFunc_LLint_LLint_Lint_Lint_slices_Equal_Lint_int y).h), false, true⟩
theorem l_slices_EqualFunc_LLint_LLint_Lint_Lint_slices_Equal_Lint_int_1_z (N : Nat) (v : (List (List Int)) × (List (List Int)) × Int × Int) : l_slices_EqualFunc_LLint_LLint_Lint_Lint_slices_Equal_Lint_int_1 N 0 v = none := by kernel_rfl
theorem l_slices_EqualFunc_LLint_LLint_Lint_Lint_slices_Equal_Lint_int_1_s (N m : Nat) (s2 : (List (List Int))) (v15 : (List (List Int))) (v16 : Int) (v17 : Int) : l_slices_EqualFunc_LLint_LLint_Lint_Lint_slices_Equal_Lint_int_1 N (m + 1) (s2, v15, v16, v17) = cond (decide (v17 < v16))
   (obind (nthI v15 v17) fun z1 =>
    obind (nthI s2 v17) fun z2 =>
    obind (m_slices_Equal_Lint_int N (z1, z2)) fun z3 =>
    cond (!z3)
     (some (.inr false))
     ((l_slices_EqualFunc_LLint_LLint_Lint_Lint_slices_Equal_Lint_int_1 N m (s2, (v15, (v16, (IntKind.wrap .i64 (v17 + (1 : Int)))))))))
   (some (.inl ())) := by kernel_rfl
theorem m_slices_EqualFunc_LLint_LLint_Lint_Lint_slices_Equal_Lint_int_eq (N : Nat) (s1 : (List (List Int))) (s2 : (List (List Int))) : m_slices_EqualFunc_LLint_LLint_Lint_Lint_slices_Equal_Lint_int (N + 1) (s1, s2) = cond (!(decide ((((List.length s1) : Nat) : Int) = (((List.length s2) : Nat) : Int))))
   (some false)
   (obind (l_slices_EqualFunc_LLint_LLint_Lint_Lint_slices_Equal_Lint_int_1 N N (s2, (s1, ((((List.length s1) : Nat) : Int), (0 : Int))))) fun z1 =>
    (match z1 with
    | .inl zy2 => some true
    | .inr zy3 => some zy3)) := by kernel_rfl
theorem c_slices_EqualFunc_LLint_LLint_Lint_Lint_slices_Equal_Lint_int_ok (N : Nat) : (c_slices_EqualFunc_LLint_LLint_Lint_Lint_slices_Equal_Lint_int N).ok Try.prog := exF_ok (T := T) (CT := ct_slices_EqualFunc_LLint_LLint_Lint_Lint_slices_Equal_Lint_int) (N := N) (fun M => ⟨tOk, (ctAll_cons (c_slices_Equal_Lint_int_ok M) ctAll_nil), mixed⟩) Try.func46 (by kernel_rfl) (by kernel_rfl) p_slices_EqualFunc_LLint_LLint_Lint_Lint_slices_Equal_Lint_int [.h (.sl (.sl (.i .i64))), .h (.sl (.sl (.i .i64))), .k (.v (.func (.func 47) #[] #[]))] [] [(.sl (.sl (.i .i64))), (.sl (.sl (.i .i64)))] r_slices_EqualFunc_LLint_LLint_Lint_Lint_slices_Equal_Lint_int false true [] (by kernel_rfl) (fun y => by kernel_rfl) (fun _ => ⟨rfl, rfl⟩) (fun y => by kernel_rfl) (m_slices_EqualFunc_LLint_LLint_Lint_Lint_slices_Equal_Lint_int N) (fun x => by kernel_rfl)
/-! archipelago/tower.Same -/
noncomputable def ct_tower_Same (N : Nat) : List Ctr := [c_slices_Equal_Lint_int N, c_slices_EqualFunc_LLint_LLint_Lint_Lint_slices_Equal_Lint_int N]
def p_tower_Same : Pl := .z
def r_tower_Same : PS := ⟨[(4, .h .b)], [], [.b]⟩
noncomputable def m_tower_Same (N : Nat) : (List Int) × (List Int) × (List (List Int)) × (List Int) × (List Int) × (List (List Int)) → Option (Bool) := exF T ct_tower_Same N (bodyOf Try.f59) 24 p_tower_Same [.ag [.h (.sl (.i .i64)), .h (.sl (.i .i64)), .h (.sl (.sl (.i .i64)))], .ag [.h (.sl (.i .i64)), .h (.sl (.i .i64)), .h (.sl (.sl (.i .i64)))]] [] [(.sl (.i .i64)), (.sl (.i .i64)), (.sl (.sl (.i .i64))), (.sl (.i .i64)), (.sl (.i .i64)), (.sl (.sl (.i .i64)))] r_tower_Same
noncomputable def c_tower_Same (N : Nat) : Ctr := ⟨59, [.ag [.h (.sl (.i .i64)), .h (.sl (.i .i64)), .h (.sl (.sl (.i .i64)))], .ag [.h (.sl (.i .i64)), .h (.sl (.i .i64)), .h (.sl (.sl (.i .i64)))]], [], [(.sl (.i .i64)), (.sl (.i .i64)), (.sl (.sl (.i .i64))), (.sl (.i .i64)), (.sl (.i .i64)), (.sl (.sl (.i .i64)))], Tup r_tower_Same.c, m_tower_Same N, fun y _ k => k (resG T (mkPS 24 r_tower_Same y) Try.f59.results.toList) (keepH' [] (mkPS 24 r_tower_Same y).h), false, true⟩
theorem m_tower_Same_eq (N : Nat) (a : (List Int)) (a2 : (List Int)) (a3 : (List (List Int))) (b : (List Int)) (b2 : (List Int)) (b3 : (List (List Int))) : m_tower_Same (N + 1) (a, a2, a3, b, b2, b3) = obind (m_slices_Equal_Lint_int N (a, b)) fun z1 =>
  cond z1
   (obind (m_slices_Equal_Lint_int N (a2, b2)) fun z2 =>
    cond z2
     (obind (m_slices_EqualFunc_LLint_LLint_Lint_Lint_slices_Equal_Lint_int N (a3, b3)) fun z3 =>
      some z3)
     (some false))
   (some false) := by kernel_rfl
theorem c_tower_Same_ok (N : Nat) : (c_tower_Same N).ok Try.prog := exF_ok (T := T) (CT := ct_tower_Same) (N := N) (fun M => ⟨tOk, (ctAll_cons (c_slices_Equal_Lint_int_ok M) (ctAll_cons (c_slices_EqualFunc_LLint_LLint_Lint_Lint_slices_Equal_Lint_int_ok M) ctAll_nil)), mixed⟩) Try.func59 (by kernel_rfl) (by kernel_rfl) p_tower_Same [.ag [.h (.sl (.i .i64)), .h (.sl (.i .i64)), .h (.sl (.sl (.i .i64)))], .ag [.h (.sl (.i .i64)), .h (.sl (.i .i64)), .h (.sl (.sl (.i .i64)))]] [] [(.sl (.i .i64)), (.sl (.i .i64)), (.sl (.sl (.i .i64))), (.sl (.i .i64)), (.sl (.i .i64)), (.sl (.sl (.i .i64)))] r_tower_Same false true [] (by kernel_rfl) (fun y => by kernel_rfl) (fun _ => ⟨rfl, rfl⟩) (fun y => by kernel_rfl) (m_tower_Same N) (fun x => by kernel_rfl)
/-! archipelago/tower.Right -/
noncomputable def ct_tower_Right (N : Nat) : List Ctr := [c_tower_Build N, c_tower_Same N]
def p_tower_Right : Pl := .z
def r_tower_Right : PS := ⟨[(2, .h .b)], [], [.b]⟩
noncomputable def m_tower_Right (N : Nat) : (List Int) × (List Int) × (List (List Int)) → Option (Bool) := exF T ct_tower_Right N (bodyOf Try.f48) 20 p_tower_Right [.ag [.h (.sl (.i .i64)), .h (.sl (.i .i64)), .h (.sl (.sl (.i .i64)))]] [] [(.sl (.i .i64)), (.sl (.i .i64)), (.sl (.sl (.i .i64)))] r_tower_Right
noncomputable def c_tower_Right (N : Nat) : Ctr := ⟨48, [.ag [.h (.sl (.i .i64)), .h (.sl (.i .i64)), .h (.sl (.sl (.i .i64)))]], [], [(.sl (.i .i64)), (.sl (.i .i64)), (.sl (.sl (.i .i64)))], Tup r_tower_Right.c, m_tower_Right N, fun y _ k => k (resG T (mkPS 20 r_tower_Right y) Try.f48.results.toList) (keepH' [] (mkPS 20 r_tower_Right y).h), false, true⟩
theorem m_tower_Right_eq (N : Nat) (t : (List Int)) (t2 : (List Int)) (t3 : (List (List Int))) : m_tower_Right (N + 1) (t, t2, t3) = obind (m_tower_Build N (t, t2)) fun z1 =>
  cond (decide (z1.1 = (0 : Int)))
   (obind (m_tower_Same N (z1.2.1, (z1.2.2.1, (z1.2.2.2, (t, (t2, t3)))))) fun z2 =>
    some z2)
   (some false) := by kernel_rfl
theorem c_tower_Right_ok (N : Nat) : (c_tower_Right N).ok Try.prog := exF_ok (T := T) (CT := ct_tower_Right) (N := N) (fun M => ⟨tOk, (ctAll_cons (c_tower_Build_ok M) (ctAll_cons (c_tower_Same_ok M) ctAll_nil)), mixed⟩) Try.func48 (by kernel_rfl) (by kernel_rfl) p_tower_Right [.ag [.h (.sl (.i .i64)), .h (.sl (.i .i64)), .h (.sl (.sl (.i .i64)))]] [] [(.sl (.i .i64)), (.sl (.i .i64)), (.sl (.sl (.i .i64)))] r_tower_Right false true [] (by kernel_rfl) (fun y => by kernel_rfl) (fun _ => ⟨rfl, rfl⟩) (fun y => by kernel_rfl) (m_tower_Right N) (fun x => by kernel_rfl)
/-! archipelago/sum.odd -/
noncomputable def ct_sum_odd (N : Nat) : List Ctr := []
def p_sum_odd : Pl := .z
def r_sum_odd : PS := ⟨[(2, .h .b)], [], [.b]⟩
noncomputable def m_sum_odd (N : Nat) : Int → Option (Bool) := exF T ct_sum_odd N (bodyOf Try.f50) 9 p_sum_odd [.h (.i .i64)] [] [(.i .i64)] r_sum_odd
noncomputable def c_sum_odd (N : Nat) : Ctr := ⟨50, [.h (.i .i64)], [], [(.i .i64)], Tup r_sum_odd.c, m_sum_odd N, fun y _ k => k (resG T (mkPS 9 r_sum_odd y) Try.f50.results.toList) (keepH' [] (mkPS 9 r_sum_odd y).h), false, true⟩
theorem m_sum_odd_eq (N : Nat) (w : Int) : m_sum_odd (N + 1) (w) = cond (decide (w < (-(1073741824 : Int))))
   (some true)
   (some (decide ((1073741824 : Int) < w))) := by kernel_rfl
theorem c_sum_odd_ok (N : Nat) : (c_sum_odd N).ok Try.prog := exF_ok (T := T) (CT := ct_sum_odd) (N := N) (fun M => ⟨tOk, ctAll_nil, mixed⟩) Try.func50 (by kernel_rfl) (by kernel_rfl) p_sum_odd [.h (.i .i64)] [] [(.i .i64)] r_sum_odd false true [] (by kernel_rfl) (fun y => by kernel_rfl) (fun _ => ⟨rfl, rfl⟩) (fun y => by kernel_rfl) (m_sum_odd N) (fun x => by kernel_rfl)
/-! slices.IndexFunc[[]int,int] -/
noncomputable def ct_slices_IndexFunc_Lint_int_sum_odd (N : Nat) : List Ctr := [c_sum_odd N]
def i_slices_IndexFunc_Lint_int_sum_odd_1 : PS := ⟨[(0, .h (.sl (.i .i64))), (1, .k (.v (.func (.func 50) #[] #[]))), (7, .h (.i .i64)), (8, .h (.i .i64))], [], [(.sl (.i .i64)), (.i .i64), (.i .i64)]⟩
def o_slices_IndexFunc_Lint_int_sum_odd_1 : List (Exit × PS) := [((.exit 0), ⟨[], [], []⟩), (.ret, ⟨[(4, .h (.i .i64))], [], [(.i .i64)]⟩)]
def p_slices_IndexFunc_Lint_int_sum_odd_1 : Pl := .z
noncomputable def l_slices_IndexFunc_Lint_int_sum_odd_1 (N : Nat) : Nat → (List Int) × Int × Int → Option ((Unit) ⊕ (Int)) := loopF (exC T (ct_slices_IndexFunc_Lint_int_sum_odd N) N (codeAt [1, 0, 1, 0, 0] (bodyOf Try.f60))) 19 i_slices_IndexFunc_Lint_int_sum_odd_1 o_slices_IndexFunc_Lint_int_sum_odd_1 p_slices_IndexFunc_Lint_int_sum_odd_1
def p_slices_IndexFunc_Lint_int_sum_odd : Pl := (.n .z (.n (.n .z (.n (.loop i_slices_IndexFunc_Lint_int_sum_odd_1 o_slices_IndexFunc_Lint_int_sum_odd_1 p_slices_IndexFunc_Lint_int_sum_odd_1) .z)) .z))
def r_slices_IndexFunc_Lint_int_sum_odd : PS := ⟨[(4, .h (.i .i64))], [], [(.i .i64)]⟩
noncomputable def m_slices_IndexFunc_Lint_int_sum_odd (N : Nat) : (List Int) → Option (Int) := exF T ct_slices_IndexFunc_Lint_int_sum_odd N (bodyOf Try.f60) 19 p_slices_IndexFunc_Lint_int_sum_odd [.h (.sl (.i .i64)), .k (.v (.func (.func 50) #[] #[]))] [] [(.sl (.i .i64))] r_slices_IndexFunc_Lint_int_sum_odd
noncomputable def c_slices_IndexFunc_Lint_int_sum_odd (N : Nat) : Ctr := ⟨60, [.h (.sl (.i .i64)), .k (.v (.func (.func 50) #[] #[]))], [], [(.sl (.i .i64))], Tup r_slices_IndexFunc_Lint_int_sum_odd.c, m_slices_IndexFunc_Lint_int_sum_odd N, fun y _ k => k (resG T (mkPS 19 r_slices_IndexFunc_Lint_int_sum_odd y) Try.f60.results.toList) (keepH' [] (mkPS 19 r_slices_IndexFunc_Lint_int_sum_odd y).h), false, true⟩
theorem l_slices_IndexFunc_Lint_int_sum_odd_1_z (N : Nat) (v : (List Int) × Int × Int) : l_slices_IndexFunc_Lint_int_sum_odd_1 N 0 v = none := by kernel_rfl
theorem l_slices_IndexFunc_Lint_int_sum_odd_1_s (N m : Nat) (s : (List Int)) (v7 : Int) (v8 : Int) : l_slices_IndexFunc_Lint_int_sum_odd_1 N (m + 1) (s, v7, v8) = cond (decide (v8 < v7))
   (obind (nthI s v8) fun z1 =>
    obind (m_sum_odd N z1) fun z2 =>
    cond z2
     (some (.inr v8))
     ((l_slices_IndexFunc_Lint_int_sum_odd_1 N m (s, (v7, (IntKind.wrap .i64 (v8 + (1 : Int))))))))
   (some (.inl ())) := by kernel_rfl
theorem m_slices_IndexFunc_Lint_int_sum_odd_eq (N : Nat) (s : (List Int)) : m_slices_IndexFunc_Lint_int_sum_odd (N + 1) (s) = obind (l_slices_IndexFunc_Lint_int_sum_odd_1 N N (s, ((((List.length s) : Nat) : Int), (0 : Int)))) fun z1 =>
  (match z1 with
  | .inl zy2 => some (-(1 : Int))
  | .inr zy3 => some zy3) := by kernel_rfl
theorem c_slices_IndexFunc_Lint_int_sum_odd_ok (N : Nat) : (c_slices_IndexFunc_Lint_int_sum_odd N).ok Try.prog := exF_ok (T := T) (CT := ct_slices_IndexFunc_Lint_int_sum_odd) (N := N) (fun M => ⟨tOk, (ctAll_cons (c_sum_odd_ok M) ctAll_nil), mixed⟩) Try.func60 (by kernel_rfl) (by kernel_rfl) p_slices_IndexFunc_Lint_int_sum_odd [.h (.sl (.i .i64)), .k (.v (.func (.func 50) #[] #[]))] [] [(.sl (.i .i64))] r_slices_IndexFunc_Lint_int_sum_odd false true [] (by kernel_rfl) (fun y => by kernel_rfl) (fun _ => ⟨rfl, rfl⟩) (fun y => by kernel_rfl) (m_slices_IndexFunc_Lint_int_sum_odd N) (fun x => by kernel_rfl)
/-! slices.ContainsFunc[[]int,int] -/
noncomputable def ct_slices_ContainsFunc_Lint_int_sum_odd (N : Nat) : List Ctr := [c_slices_IndexFunc_Lint_int_sum_odd N]
def p_slices_ContainsFunc_Lint_int_sum_odd : Pl := .z
def r_slices_ContainsFunc_Lint_int_sum_odd : PS := ⟨[(4, .h .b)], [], [.b]⟩
noncomputable def m_slices_ContainsFunc_Lint_int_sum_odd (N : Nat) : (List Int) → Option (Bool) := exF T ct_slices_ContainsFunc_Lint_int_sum_odd N (bodyOf Try.f49) 9 p_slices_ContainsFunc_Lint_int_sum_odd [.h (.sl (.i .i64)), .k (.v (.func (.func 50) #[] #[]))] [] [(.sl (.i .i64))] r_slices_ContainsFunc_Lint_int_sum_odd
noncomputable def c_slices_ContainsFunc_Lint_int_sum_odd (N : Nat) : Ctr := ⟨49, [.h (.sl (.i .i64)), .k (.v (.func (.func 50) #[] #[]))], [], [(.sl (.i .i64))], Tup r_slices_ContainsFunc_Lint_int_sum_odd.c, m_slices_ContainsFunc_Lint_int_sum_odd N, fun y _ k => k (resG T (mkPS 9 r_slices_ContainsFunc_Lint_int_sum_odd y) Try.f49.results.toList) (keepH' [] (mkPS 9 r_slices_ContainsFunc_Lint_int_sum_odd y).h), false, true⟩
theorem m_slices_ContainsFunc_Lint_int_sum_odd_eq (N : Nat) (s : (List Int)) : m_slices_ContainsFunc_Lint_int_sum_odd (N + 1) (s) = obind (m_slices_IndexFunc_Lint_int_sum_odd N s) fun z1 =>
  some (decide ((0 : Int) ≤ z1)) := by kernel_rfl
theorem c_slices_ContainsFunc_Lint_int_sum_odd_ok (N : Nat) : (c_slices_ContainsFunc_Lint_int_sum_odd N).ok Try.prog := exF_ok (T := T) (CT := ct_slices_ContainsFunc_Lint_int_sum_odd) (N := N) (fun M => ⟨tOk, (ctAll_cons (c_slices_IndexFunc_Lint_int_sum_odd_ok M) ctAll_nil), mixed⟩) Try.func49 (by kernel_rfl) (by kernel_rfl) p_slices_ContainsFunc_Lint_int_sum_odd [.h (.sl (.i .i64)), .k (.v (.func (.func 50) #[] #[]))] [] [(.sl (.i .i64))] r_slices_ContainsFunc_Lint_int_sum_odd false true [] (by kernel_rfl) (fun y => by kernel_rfl) (fun _ => ⟨rfl, rfl⟩) (fun y => by kernel_rfl) (m_slices_ContainsFunc_Lint_int_sum_odd N) (fun x => by kernel_rfl)
/-! archipelago/sum.Build -/
noncomputable def ct_sum_Build_o (N : Nat) : List Ctr := [c_tower_Right N, c_slices_ContainsFunc_Lint_int_sum_odd N]
def i_sum_Build_o_4 : PS := ⟨[(6, .h (.i .i64)), (7, .k (.ow 900)), (10, .k (.ow 901)), (11, .h (.i .i64)), (14, .h (.i .i64)), (15, .h (.i .i64)), (56, .h (.sl (.sl (.i .i64)))), (57, .h (.i .i64)), (58, .h (.i .i64)), (63, .h (.sl (.i .i64))), (64, .h (.i .i64)), (65, .h (.i .i64))], [(900, .arr 3 (.i .i64) true), (901, .nr 22 (.i .i64) (some (11, 902))), (4294967296, .arr 3 (.i .i64) true), (902, .arr 3 (.i .i64) true)], [(.i .i64), (.i .i64), (.i .i64), (.i .i64), (.sl (.sl (.i .i64))), (.i .i64), (.i .i64), (.sl (.i .i64)), (.i .i64), (.i .i64), (.sl (.i .i64)), (.sl (.sl (.i .i64))), (.i .i64), (.sl (.i .i64)), (.sl (.i .i64))]⟩
def o_sum_Build_o_4 : List (Exit × PS) := [(.normal, ⟨[(6, .h (.i .i64)), (7, .k (.ow 900)), (10, .k (.ow 901)), (11, .h (.i .i64)), (15, .h (.i .i64)), (56, .h (.sl (.sl (.i .i64)))), (57, .h (.i .i64)), (58, .h (.i .i64)), (63, .h (.sl (.i .i64))), (64, .h (.i .i64)), (65, .h (.i .i64))], [(900, .arr 3 (.i .i64) true), (901, .nr 22 (.i .i64) (some (11, 902))), (4294967296, .arr 3 (.i .i64) true), (902, .arr 3 (.i .i64) true)], [(.i .i64), (.i .i64), (.i .i64), (.sl (.sl (.i .i64))), (.i .i64), (.i .i64), (.sl (.i .i64)), (.i .i64), (.i .i64), (.sl (.i .i64)), (.sl (.sl (.i .i64))), (.i .i64), (.sl (.i .i64)), (.sl (.i .i64))]⟩)]
def p_sum_Build_o_4 : Pl := .z
noncomputable def l_sum_Build_o_4 (N : Nat) : Nat → Int × Int × Int × Int × (List (List Int)) × Int × Int × (List Int) × Int × Int × (List Int) × (List (List Int)) × Int × (List Int) × (List Int) → Option (Int × Int × Int × (List (List Int)) × Int × Int × (List Int) × Int × Int × (List Int) × (List (List Int)) × Int × (List Int) × (List Int)) := joinF (exC0 T (ct_sum_Build_o N) N (codeAt [1, 1, 1, 1, 1, 1, 0, 1, 0, 0, 1, 1, 0, 0, 1, 1, 0, 0, 1, 1, 0, 0, 1, 1, 0] (bodyOf Try.f21))) 100 i_sum_Build_o_4 o_sum_Build_o_4 p_sum_Build_o_4
def i_sum_Build_o_3 : PS := ⟨[(6, .h (.i .i64)), (7, .k (.ow 900)), (10, .k (.ow 901)), (11, .h (.i .i64)), (56, .h (.sl (.sl (.i .i64)))), (57, .h (.i .i64)), (58, .h (.i .i64)), (63, .h (.sl (.i .i64))), (64, .h (.i .i64)), (65, .h (.i .i64))], [(900, .arr 3 (.i .i64) true), (901, .nr 22 (.i .i64) (some (11, 902))), (4294967296, .arr 3 (.i .i64) true), (902, .arr 3 (.i .i64) true)], [(.i .i64), (.i .i64), (.sl (.sl (.i .i64))), (.i .i64), (.i .i64), (.sl (.i .i64)), (.i .i64), (.i .i64), (.sl (.i .i64)), (.sl (.sl (.i .i64))), (.i .i64), (.sl (.i .i64)), (.sl (.i .i64))]⟩
def o_sum_Build_o_3 : List (Exit × PS) := [((.exit 4), ⟨[(6, .h (.i .i64)), (7, .k (.ow 900)), (10, .k (.ow 901)), (56, .h (.sl (.sl (.i .i64)))), (57, .h (.i .i64)), (58, .h (.i .i64))], [(900, .arr 3 (.i .i64) true), (901, .nr 22 (.i .i64) (some (0, 902))), (4294967296, .arr 3 (.i .i64) true), (902, .arr 3 (.i .i64) true)], [(.i .i64), (.sl (.sl (.i .i64))), (.i .i64), (.i .i64), (.sl (.i .i64)), (.sl (.sl (.i .i64))), (.i .i64), (.sl (.i .i64)), (.sl (.i .i64))]⟩)]
def p_sum_Build_o_3 : Pl := (.n .z (.n .z (.n (.n (.n .z (.n .z (.n (.join i_sum_Build_o_4 o_sum_Build_o_4 p_sum_Build_o_4) .z))) .z) .z)))
noncomputable def l_sum_Build_o_3 (N : Nat) : Nat → Int × Int × (List (List Int)) × Int × Int × (List Int) × Int × Int × (List Int) × (List (List Int)) × Int × (List Int) × (List Int) → Option (Int × (List (List Int)) × Int × Int × (List Int) × (List (List Int)) × Int × (List Int) × (List Int)) := loopF (exC T (ct_sum_Build_o N) N (codeAt [1, 1, 1, 1, 1, 1, 0, 1, 0, 0, 1, 1, 0, 0, 1, 1, 0, 0] (bodyOf Try.f21))) 100 i_sum_Build_o_3 o_sum_Build_o_3 p_sum_Build_o_3
def i_sum_Build_o_2 : PS := ⟨[(6, .h (.i .i64)), (7, .k (.ow 900)), (10, .k (.ow 901)), (56, .h (.sl (.sl (.i .i64)))), (57, .h (.i .i64)), (58, .h (.i .i64))], [(900, .arr 3 (.i .i64) true), (901, .nr 22 (.i .i64) none), (4294967296, .arr 3 (.i .i64) true)], [(.i .i64), (.sl (.sl (.i .i64))), (.i .i64), (.i .i64), (.sl (.i .i64)), (.sl (.sl (.i .i64))), (.sl (.i .i64))]⟩
def o_sum_Build_o_2 : List (Exit × PS) := [((.exit 2), ⟨[(10, .k (.ow 900))], [(900, .nr 22 (.i .i64) none), (4294967296, .arr 3 (.i .i64) true)], [(.sl (.sl (.i .i64))), (.sl (.i .i64))]⟩)]
def p_sum_Build_o_2 : Pl := (.n .z (.n .z (.n (.n (.n .z (.n .z (.n (.loop i_sum_Build_o_3 o_sum_Build_o_3 p_sum_Build_o_3) .z))) .z) .z)))
noncomputable def l_sum_Build_o_2 (N : Nat) : Nat → Int × (List (List Int)) × Int × Int × (List Int) × (List (List Int)) × (List Int) → Option ((List (List Int)) × (List Int)) := loopF (exC T (ct_sum_Build_o N) N (codeAt [1, 1, 1, 1, 1, 1, 0, 1, 0, 0] (bodyOf Try.f21))) 100 i_sum_Build_o_2 o_sum_Build_o_2 p_sum_Build_o_2
def i_sum_Build_o_1 : PS := ⟨[(2, .k (.pt 900 0)), (6, .h (.i .i64)), (7, .k (.ow 901)), (35, .k (.ow 4294967296)), (36, .h (.i .i64)), (37, .h (.i .i64))], [(900, .box 25 [.h (.sl (.i .i64)), .h (.sl (.i .i64)), .h (.sl (.sl (.i .i64)))]), (901, .arr 3 (.i .i64) true), (4294967296, .arr 3 (.i .i64) true)], [(.i .i64), (.i .i64), (.i .i64), (.sl (.i .i64)), (.sl (.i .i64)), (.sl (.sl (.i .i64))), (.sl (.i .i64)), (.sl (.i .i64))]⟩
def o_sum_Build_o_1 : List (Exit × PS) := [((.exit 0), ⟨[(2, .k (.pt 900 0)), (6, .h (.i .i64)), (7, .k (.ow 901))], [(900, .box 25 [.h (.sl (.i .i64)), .h (.sl (.i .i64)), .h (.sl (.sl (.i .i64)))]), (901, .arr 3 (.i .i64) true), (4294967296, .arr 3 (.i .i64) true)], [(.i .i64), (.sl (.i .i64)), (.sl (.i .i64)), (.sl (.sl (.i .i64))), (.sl (.i .i64)), (.sl (.i .i64))]⟩)]
def p_sum_Build_o_1 : Pl := .z
noncomputable def l_sum_Build_o_1 (N : Nat) : Nat → Int × Int × Int × (List Int) × (List Int) × (List (List Int)) × (List Int) × (List Int) → Option (Int × (List Int) × (List Int) × (List (List Int)) × (List Int) × (List Int)) := loopF (exC T (ct_sum_Build_o N) N (codeAt [1, 1, 1, 1, 0, 1, 0, 0] (bodyOf Try.f21))) 100 i_sum_Build_o_1 o_sum_Build_o_1 p_sum_Build_o_1
def p_sum_Build_o : Pl := (.n .z (.n .z (.n .z (.n .z (.n (.n .z (.n (.loop i_sum_Build_o_1 o_sum_Build_o_1 p_sum_Build_o_1) .z)) (.n .z (.n (.n .z (.n (.loop i_sum_Build_o_2 o_sum_Build_o_2 p_sum_Build_o_2) .z)) .z)))))))
def r_sum_Build_o : PS := ⟨[(4, .k (.ow 900)), (5, .h (.i .i64))], [(900, .arr 22 (.sl (.i .i64)) true), (4294967296, .arr 3 (.i .i64) true)], [(.i .i64), (.sl (.sl (.i .i64))), (.sl (.i .i64))]⟩
noncomputable def m_sum_Build_o (N : Nat) : (List Int) × (List Int) × (List (List Int)) × (List Int) → Option (Int × (List (List Int)) × (List Int)) := exF T ct_sum_Build_o N (bodyOf Try.f21) 100 p_sum_Build_o [.ag [.h (.sl (.i .i64)), .h (.sl (.i .i64)), .h (.sl (.sl (.i .i64)))], .k (.ow 4294967296)] [(4294967296, .arr 3 (.i .i64) true)] [(.sl (.i .i64)), (.sl (.i .i64)), (.sl (.sl (.i .i64))), (.sl (.i .i64))] r_sum_Build_o
noncomputable def c_sum_Build_o (N : Nat) : Ctr := ⟨21, [.ag [.h (.sl (.i .i64)), .h (.sl (.i .i64)), .h (.sl (.sl (.i .i64)))], .k (.ow 4294967296)], [(4294967296, .arr 3 (.i .i64) true)], [(.sl (.i .i64)), (.sl (.i .i64)), (.sl (.sl (.i .i64))), (.sl (.i .i64))], Tup r_sum_Build_o.c, m_sum_Build_o N, fun y _ k => k (resG T (mkPS 100 r_sum_Build_o y) Try.f21.results.toList) (keepH' [900, 4294967296] (mkPS 100 r_sum_Build_o y).h), true, false⟩
theorem l_sum_Build_o_4_s (N m : Nat) (n : Int) (i : Int) (to : Int) (s : Int) (v56 : (List (List Int))) (v57 : Int) (v58 : Int) (v63 : (List Int)) (v64 : Int) (v65 : Int) (ahead : (List Int)) (sums : (List (List Int))) (sums2 : Int) (v4294967296 : (List Int)) (v902 : (List Int)) : l_sum_Build_o_4 N (m + 1) (n, i, to, s, v56, v57, v58, v63, v64, v65, ahead, sums, sums2, v4294967296, v902) = cond (decide (to ≤ i))
   (obind (nthI ahead n) fun z1 =>
    obind (nthI ahead n) fun z2 =>
    some (n, (i, ((IntKind.wrap .i64 (s + z2)), (v56, (v57, (v58, (v63, (v64, (v65, (ahead, (sums, (sums2, (v4294967296, v902))))))))))))))
   (some (n, (i, (s, (v56, (v57, (v58, (v63, (v64, (v65, (ahead, (sums, (sums2, (v4294967296, v902)))))))))))))) := by kernel_rfl
theorem l_sum_Build_o_3_z (N : Nat) (v : Int × Int × (List (List Int)) × Int × Int × (List Int) × Int × Int × (List Int) × (List (List Int)) × Int × (List Int) × (List Int)) : l_sum_Build_o_3 N 0 v = none := by kernel_rfl
theorem l_sum_Build_o_3_s (N m : Nat) (n : Int) (i : Int) (v56 : (List (List Int))) (v57 : Int) (v58 : Int) (v63 : (List Int)) (v64 : Int) (v65 : Int) (ahead : (List Int)) (sums : (List (List Int))) (sums2 : Int) (v4294967296 : (List Int)) (v902 : (List Int)) : l_sum_Build_o_3 N (m + 1) (n, i, v56, v57, v58, v63, v64, v65, ahead, sums, sums2, v4294967296, v902) = cond (decide (v65 < v64))
   (obind (nthI v63 v65) fun z1 =>
    obind (nthI ahead z1) fun z2 =>
    obind (nthI ahead z1) fun z3 =>
    obind (nthI ahead i) fun z4 =>
    obind (nthI ahead i) fun z5 =>
    obind (l_sum_Build_o_4 N N (n, (i, (z1, ((IntKind.wrap .i64 (z3 - z5)), (v56, (v57, (v58, (v63, (v64, (v65, (ahead, (sums, (sums2, (v4294967296, v902))))))))))))))) fun z6 =>
    obind (nthI z6.2.2.2.2.2.2.2.2.2.2.1 z6.2.1) fun z7 =>
    cond (decide ((Int.toNat z6.2.1) = (Int.toNat z6.2.2.2.2.2.2.2.2.2.2.2.1)))
     (obind (nthI z6.2.2.2.2.2.2.2.2.2.2.1 z6.2.1) fun z8 =>
      obind (appI (8 : Nat) z6.2.2.2.2.2.2.2.2.2.2.2.2.2 [z6.2.2.1]) fun z9 =>
      obind (nthI z6.2.2.2.2.2.2.2.2.2.2.1 z6.2.1) fun z10 =>
      cond (decide ((Int.toNat z6.2.1) = (Int.toNat z6.2.2.2.2.2.2.2.2.2.2.2.1)))
       (obind (nthI z6.2.2.2.2.2.2.2.2.2.2.1 z6.2.1) fun z11 =>
        (l_sum_Build_o_3 N m (z6.1, (z6.2.1, (z6.2.2.2.1, (z6.2.2.2.2.1, (z6.2.2.2.2.2.1, (z6.2.2.2.2.2.2.1, (z6.2.2.2.2.2.2.2.1, ((IntKind.wrap .i64 (z6.2.2.2.2.2.2.2.2.1 + (1 : Int))), (z6.2.2.2.2.2.2.2.2.2.1, (z6.2.2.2.2.2.2.2.2.2.2.1, (z6.2.1, (z6.2.2.2.2.2.2.2.2.2.2.2.2.1, z9))))))))))))))
       (none))
     (obind (nthI z6.2.2.2.2.2.2.2.2.2.2.1 z6.2.1) fun z12 =>
      cond (isNilL z12)
       (obind (nthI z6.2.2.2.2.2.2.2.2.2.2.1 z6.2.1) fun z13 =>
        cond (decide ((Int.toNat z6.2.1) = (Int.toNat z6.2.2.2.2.2.2.2.2.2.2.2.1)))
         (obind (nthI z6.2.2.2.2.2.2.2.2.2.2.1 z6.2.1) fun z14 =>
          (l_sum_Build_o_3 N m (z6.1, (z6.2.1, (z6.2.2.2.1, (z6.2.2.2.2.1, (z6.2.2.2.2.2.1, (z6.2.2.2.2.2.2.1, (z6.2.2.2.2.2.2.2.1, ((IntKind.wrap .i64 (z6.2.2.2.2.2.2.2.2.1 + (1 : Int))), (z6.2.2.2.2.2.2.2.2.2.1, (z6.2.2.2.2.2.2.2.2.2.2.1, (z6.2.1, (z6.2.2.2.2.2.2.2.2.2.2.2.2.1, ([] ++ [z6.2.2.1])))))))))))))))
         (none))
       (none)))
   (some (n, (v56, (v57, (v58, (ahead, (sums, (sums2, (v4294967296, v902))))))))) := by kernel_rfl
theorem l_sum_Build_o_2_z (N : Nat) (v : Int × (List (List Int)) × Int × Int × (List Int) × (List (List Int)) × (List Int)) : l_sum_Build_o_2 N 0 v = none := by kernel_rfl
theorem l_sum_Build_o_2_s (N m : Nat) (n : Int) (v56 : (List (List Int))) (v57 : Int) (v58 : Int) (ahead : (List Int)) (sums : (List (List Int))) (v4294967296 : (List Int)) : l_sum_Build_o_2 N (m + 1) (n, v56, v57, v58, ahead, sums, v4294967296) = cond (decide (v58 < v57))
   (obind (nthI v56 v58) fun z1 =>
    obind (nthI sums v58) fun z2 =>
    cond (isNilL z2)
     (obind (l_sum_Build_o_3 N N (n, (v58, (v56, (v57, (v58, (z1, ((((List.length z1) : Nat) : Int), ((0 : Int), (ahead, (sums, (v58, (v4294967296, []))))))))))))) fun z3 =>
      obind (nthI z3.2.2.2.2.2.1 z3.2.2.2.2.2.2.1) fun z4 =>
      cond (isNilL z3.2.2.2.2.2.2.2.2)
       (none)
       ((l_sum_Build_o_2 N m (z3.1, (z3.2.1, (z3.2.2.1, ((IntKind.wrap .i64 (z3.2.2.2.1 + (1 : Int))), (z3.2.2.2.2.1, ((List.set z3.2.2.2.2.2.1 (Int.toNat z3.2.2.2.2.2.2.1) z3.2.2.2.2.2.2.2.2), z3.2.2.2.2.2.2.2.1)))))))))
     (none))
   (some (sums, v4294967296)) := by kernel_rfl
theorem l_sum_Build_o_1_z (N : Nat) (v : Int × Int × Int × (List Int) × (List Int) × (List (List Int)) × (List Int) × (List Int)) : l_sum_Build_o_1 N 0 v = none := by kernel_rfl
theorem l_sum_Build_o_1_s (N m : Nat) (n : Int) (v36 : Int) (v37 : Int) (t : (List Int)) (t2 : (List Int)) (t3 : (List (List Int))) (ahead : (List Int)) (v35 : (List Int)) : l_sum_Build_o_1 N (m + 1) (n, v36, v37, t, t2, t3, ahead, v35) = cond (decide (v37 < v36))
   (obind (nthI v35 v37) fun z1 =>
    obind (nthI v35 v37) fun z2 =>
    obind (nthI ahead v37) fun z3 =>
    obind (nthI ahead v37) fun z4 =>
    obind (nthI ahead (IntKind.wrap .i64 (v37 + (1 : Int)))) fun z5 =>
    obind (nthI ahead (IntKind.wrap .i64 (v37 + (1 : Int)))) fun z6 =>
    (l_sum_Build_o_1 N m (n, (v36, ((IntKind.wrap .i64 (v37 + (1 : Int))), (t, (t2, (t3, ((List.set ahead (Int.toNat (IntKind.wrap .i64 (v37 + (1 : Int)))) (IntKind.wrap .i64 (z4 + z2))), v35)))))))))
   (some (n, (t, (t2, (t3, (ahead, v35)))))) := by kernel_rfl
theorem m_sum_Build_o_eq (N : Nat) (t : (List Int)) (t2 : (List Int)) (t3 : (List (List Int))) (weights : (List Int)) : m_sum_Build_o (N + 1) (t, t2, t3, weights) = cond (!(decide ((((List.length weights) : Nat) : Int) = (((List.length t) : Nat) : Int))))
   (some ((1 : Int), ([], weights)))
   (obind (m_tower_Right N (t, (t2, t3))) fun z1 =>
    cond (!z1)
     (some ((1 : Int), ([], weights)))
     (obind (m_slices_ContainsFunc_Lint_int_sum_odd N weights) fun z2 =>
      cond z2
       (some ((1 : Int), ([], weights)))
       (obind (makI (IntKind.wrap .i64 ((((List.length t) : Nat) : Int) + (1 : Int))) (8 : Nat)) fun z3 =>
        obind (l_sum_Build_o_1 N N ((((List.length t) : Nat) : Int), ((((List.length weights) : Nat) : Int), ((0 : Int), (t, (t2, (t3, ((List.replicate z3 (0 : Int)), weights)))))))) fun z4 =>
        obind (makI z4.1 (24 : Nat)) fun z5 =>
        obind (l_sum_Build_o_2 N N (z4.1, (z4.2.2.2.1, ((((List.length z4.2.2.2.1) : Nat) : Int), ((0 : Int), (z4.2.2.2.2.1, ((List.replicate z5 []), z4.2.2.2.2.2))))))) fun z6 =>
        some ((0 : Int), (z6.1, z6.2))))) := by kernel_rfl
theorem c_sum_Build_o_ok (N : Nat) : (c_sum_Build_o N).ok Try.prog := exF_ok (T := T) (CT := ct_sum_Build_o) (N := N) (fun M => ⟨tOk, (ctAll_cons (c_tower_Right_ok M) (ctAll_cons (c_slices_ContainsFunc_Lint_int_sum_odd_ok M) ctAll_nil)), mixed⟩) Try.func21 (by kernel_rfl) (by kernel_rfl) p_sum_Build_o [.ag [.h (.sl (.i .i64)), .h (.sl (.i .i64)), .h (.sl (.sl (.i .i64)))], .k (.ow 4294967296)] [(4294967296, .arr 3 (.i .i64) true)] [(.sl (.i .i64)), (.sl (.i .i64)), (.sl (.sl (.i .i64))), (.sl (.i .i64))] r_sum_Build_o true false [900, 4294967296] (by kernel_rfl) (fun y => by kernel_rfl) (fun h => by cases h) (fun y => by kernel_rfl) (m_sum_Build_o N) (fun x => by kernel_rfl)
/-! archipelago/sum.Weights -/
noncomputable def ct_sum_Weights (N : Nat) : List Ctr := [c_sum_Build_o N, c_slices_EqualFunc_LLint_LLint_Lint_Lint_slices_Equal_Lint_int N]
def i_sum_Weights_1 : PS := ⟨[(1, .h (.sl (.sl (.i .i64)))), (2, .k (.pt 900 0)), (5, .k (.ow 901)), (10, .h (.sl (.sl (.i .i64)))), (11, .h (.i .i64)), (12, .h (.i .i64))], [(900, .box 25 [.h (.sl (.i .i64)), .h (.sl (.i .i64)), .h (.sl (.sl (.i .i64)))]), (901, .arr 3 (.i .i64) true)], [(.sl (.sl (.i .i64))), (.sl (.sl (.i .i64))), (.i .i64), (.i .i64), (.sl (.i .i64)), (.sl (.i .i64)), (.sl (.sl (.i .i64))), (.sl (.i .i64))]⟩
def o_sum_Weights_1 : List (Exit × PS) := [((.exit 0), ⟨[(1, .h (.sl (.sl (.i .i64)))), (2, .k (.pt 900 0)), (5, .k (.ow 901))], [(900, .box 25 [.h (.sl (.i .i64)), .h (.sl (.i .i64)), .h (.sl (.sl (.i .i64)))]), (901, .arr 3 (.i .i64) true)], [(.sl (.sl (.i .i64))), (.sl (.i .i64)), (.sl (.i .i64)), (.sl (.sl (.i .i64))), (.sl (.i .i64))]⟩), (.ret, ⟨[(4, .k .nil)], [], []⟩)]
def p_sum_Weights_1 : Pl := .z
noncomputable def l_sum_Weights_1 (N : Nat) : Nat → (List (List Int)) × (List (List Int)) × Int × Int × (List Int) × (List Int) × (List (List Int)) × (List Int) → Option (((List (List Int)) × (List Int) × (List Int) × (List (List Int)) × (List Int)) ⊕ (Unit)) := loopF (exC T (ct_sum_Weights N) N (codeAt [1, 1, 0, 1, 0, 0] (bodyOf Try.f19))) 41 i_sum_Weights_1 o_sum_Weights_1 p_sum_Weights_1
def p_sum_Weights : Pl := (.n .z (.n .z (.n (.n .z (.n (.loop i_sum_Weights_1 o_sum_Weights_1 p_sum_Weights_1) .z)) .z)))
def r_sum_Weights : PS := ⟨[(4, .k (.ow 900))], [(900, .arr 3 (.i .i64) true)], [(.sl (.i .i64))]⟩
noncomputable def m_sum_Weights (N : Nat) : (List Int) × (List Int) × (List (List Int)) × (List (List Int)) → Option ((List Int)) := exF T ct_sum_Weights N (bodyOf Try.f19) 41 p_sum_Weights [.ag [.h (.sl (.i .i64)), .h (.sl (.i .i64)), .h (.sl (.sl (.i .i64)))], .h (.sl (.sl (.i .i64)))] [] [(.sl (.i .i64)), (.sl (.i .i64)), (.sl (.sl (.i .i64))), (.sl (.sl (.i .i64)))] r_sum_Weights
noncomputable def c_sum_Weights (N : Nat) : Ctr := ⟨19, [.ag [.h (.sl (.i .i64)), .h (.sl (.i .i64)), .h (.sl (.sl (.i .i64)))], .h (.sl (.sl (.i .i64)))], [], [(.sl (.i .i64)), (.sl (.i .i64)), (.sl (.sl (.i .i64))), (.sl (.sl (.i .i64)))], Tup r_sum_Weights.c, m_sum_Weights N, fun y _ k => k (resG T (mkPS 41 r_sum_Weights y) Try.f19.results.toList) (keepH' [900] (mkPS 41 r_sum_Weights y).h), true, true⟩
theorem l_sum_Weights_1_z (N : Nat) (v : (List (List Int)) × (List (List Int)) × Int × Int × (List Int) × (List Int) × (List (List Int)) × (List Int)) : l_sum_Weights_1 N 0 v = none := by kernel_rfl
theorem l_sum_Weights_1_s (N m : Nat) (sums : (List (List Int))) (v10 : (List (List Int))) (v11 : Int) (v12 : Int) (t : (List Int)) (t2 : (List Int)) (t3 : (List (List Int))) (w : (List Int)) : l_sum_Weights_1 N (m + 1) (sums, v10, v11, v12, t, t2, t3, w) = cond (decide (v12 < v11))
   (obind (nthI v10 v12) fun z1 =>
    cond (decide ((((List.length z1) : Nat) : Int) = (0 : Int)))
     (some (.inr ()))
     (obind (nthI z1 (0 : Int)) fun z2 =>
      obind (appI (8 : Nat) w [z2]) fun z3 =>
      (l_sum_Weights_1 N m (sums, (v10, (v11, ((IntKind.wrap .i64 (v12 + (1 : Int))), (t, (t2, (t3, z3))))))))))
   (some (.inl (sums, (t, (t2, (t3, w)))))) := by kernel_rfl
theorem m_sum_Weights_eq (N : Nat) (t : (List Int)) (t2 : (List Int)) (t3 : (List (List Int))) (sums : (List (List Int))) : m_sum_Weights (N + 1) (t, t2, t3, sums) = obind (l_sum_Weights_1 N N (sums, (sums, ((((List.length sums) : Nat) : Int), ((0 : Int), (t, (t2, (t3, [])))))))) fun z1 =>
  (match z1 with
  | .inl zy2 => obind (m_sum_Build_o N (zy2.2.1, (zy2.2.2.1, (zy2.2.2.2.1, zy2.2.2.2.2)))) fun z3 =>
    cond (!(decide (z3.1 = (0 : Int))))
     (some [])
     (obind (m_slices_EqualFunc_LLint_LLint_Lint_Lint_slices_Equal_Lint_int N (z3.2.1, zy2.1)) fun z4 =>
      cond (!z4)
       (some [])
       (some z3.2.2))
  | .inr zy5 => some []) := by kernel_rfl
theorem c_sum_Weights_ok (N : Nat) : (c_sum_Weights N).ok Try.prog := exF_ok (T := T) (CT := ct_sum_Weights) (N := N) (fun M => ⟨tOk, (ctAll_cons (c_sum_Build_o_ok M) (ctAll_cons (c_slices_EqualFunc_LLint_LLint_Lint_Lint_slices_Equal_Lint_int_ok M) ctAll_nil)), mixed⟩) Try.func19 (by kernel_rfl) (by kernel_rfl) p_sum_Weights [.ag [.h (.sl (.i .i64)), .h (.sl (.i .i64)), .h (.sl (.sl (.i .i64)))], .h (.sl (.sl (.i .i64)))] [] [(.sl (.i .i64)), (.sl (.i .i64)), (.sl (.sl (.i .i64))), (.sl (.sl (.i .i64)))] r_sum_Weights true true [900] (by kernel_rfl) (fun y => by kernel_rfl) (fun h => by cases h) (fun y => by kernel_rfl) (m_sum_Weights N) (fun x => by kernel_rfl)
/-! slices.Max[[]int,int] -/
noncomputable def ct_slices_Max_Lint_int (N : Nat) : List Ctr := []
def i_slices_Max_Lint_int_1 : PS := ⟨[(0, .h (.sl (.i .i64))), (3, .h (.i .i64)), (4, .h (.i .i64))], [], [(.sl (.i .i64)), (.i .i64), (.i .i64)]⟩
def o_slices_Max_Lint_int_1 : List (Exit × PS) := [((.exit 0), ⟨[(3, .h (.i .i64))], [], [(.i .i64)]⟩)]
def p_slices_Max_Lint_int_1 : Pl := .z
noncomputable def l_slices_Max_Lint_int_1 (N : Nat) : Nat → (List Int) × Int × Int → Option (Int) := loopF (exC T (ct_slices_Max_Lint_int N) N (codeAt [1, 1, 1, 0, 1, 0, 0] (bodyOf Try.f57))) 25 i_slices_Max_Lint_int_1 o_slices_Max_Lint_int_1 p_slices_Max_Lint_int_1
def p_slices_Max_Lint_int : Pl := (.n .z (.n .z (.n .z (.n (.n .z (.n (.loop i_slices_Max_Lint_int_1 o_slices_Max_Lint_int_1 p_slices_Max_Lint_int_1) .z)) .z))))
def r_slices_Max_Lint_int : PS := ⟨[(2, .h (.i .i64))], [], [(.i .i64)]⟩
noncomputable def m_slices_Max_Lint_int (N : Nat) : (List Int) → Option (Int) := exF T ct_slices_Max_Lint_int N (bodyOf Try.f57) 25 p_slices_Max_Lint_int [.h (.sl (.i .i64))] [] [(.sl (.i .i64))] r_slices_Max_Lint_int
noncomputable def c_slices_Max_Lint_int (N : Nat) : Ctr := ⟨57, [.h (.sl (.i .i64))], [], [(.sl (.i .i64))], Tup r_slices_Max_Lint_int.c, m_slices_Max_Lint_int N, fun y _ k => k (resG T (mkPS 25 r_slices_Max_Lint_int y) Try.f57.results.toList) (keepH' [] (mkPS 25 r_slices_Max_Lint_int y).h), false, true⟩
theorem l_slices_Max_Lint_int_1_z (N : Nat) (v : (List Int) × Int × Int) : l_slices_Max_Lint_int_1 N 0 v = none := by kernel_rfl
theorem l_slices_Max_Lint_int_1_s (N m : Nat) (x : (List Int)) (v3 : Int) (i : Int) : l_slices_Max_Lint_int_1 N (m + 1) (x, v3, i) = cond (decide (i < (((List.length x) : Nat) : Int)))
   (obind (nthI x i) fun z1 =>
    (l_slices_Max_Lint_int_1 N m (x, ((if (z1 > v3) then z1 else v3), (IntKind.wrap .i64 (i + (1 : Int)))))))
   (some v3) := by kernel_rfl
theorem m_slices_Max_Lint_int_eq (N : Nat) (x : (List Int)) : m_slices_Max_Lint_int (N + 1) (x) = cond (decide ((((List.length x) : Nat) : Int) < (1 : Int)))
   (none)
   (obind (nthI x (0 : Int)) fun z1 =>
    obind (l_slices_Max_Lint_int_1 N N (x, (z1, (1 : Int)))) fun z2 =>
    some z2) := by kernel_rfl
theorem c_slices_Max_Lint_int_ok (N : Nat) : (c_slices_Max_Lint_int N).ok Try.prog := exF_ok (T := T) (CT := ct_slices_Max_Lint_int) (N := N) (fun M => ⟨tOk, ctAll_nil, mixed⟩) Try.func57 (by kernel_rfl) (by kernel_rfl) p_slices_Max_Lint_int [.h (.sl (.i .i64))] [] [(.sl (.i .i64))] r_slices_Max_Lint_int false true [] (by kernel_rfl) (fun y => by kernel_rfl) (fun _ => ⟨rfl, rfl⟩) (fun y => by kernel_rfl) (m_slices_Max_Lint_int N) (fun x => by kernel_rfl)
/-! slices.Index[[]int,int] -/
noncomputable def ct_slices_Index_Lint_int (N : Nat) : List Ctr := []
def i_slices_Index_Lint_int_1 : PS := ⟨[(0, .h (.sl (.i .i64))), (1, .h (.i .i64)), (7, .h (.i .i64)), (8, .h (.i .i64))], [], [(.sl (.i .i64)), (.i .i64), (.i .i64), (.i .i64)]⟩
def o_slices_Index_Lint_int_1 : List (Exit × PS) := [((.exit 0), ⟨[], [], []⟩), (.ret, ⟨[(4, .h (.i .i64))], [], [(.i .i64)]⟩)]
def p_slices_Index_Lint_int_1 : Pl := .z
noncomputable def l_slices_Index_Lint_int_1 (N : Nat) : Nat → (List Int) × Int × Int × Int → Option ((Unit) ⊕ (Int)) := loopF (exC T (ct_slices_Index_Lint_int N) N (codeAt [1, 0, 1, 0, 0] (bodyOf Try.f56))) 19 i_slices_Index_Lint_int_1 o_slices_Index_Lint_int_1 p_slices_Index_Lint_int_1
def p_slices_Index_Lint_int : Pl := (.n .z (.n (.n .z (.n (.loop i_slices_Index_Lint_int_1 o_slices_Index_Lint_int_1 p_slices_Index_Lint_int_1) .z)) .z))
def r_slices_Index_Lint_int : PS := ⟨[(4, .h (.i .i64))], [], [(.i .i64)]⟩
noncomputable def m_slices_Index_Lint_int (N : Nat) : (List Int) × Int → Option (Int) := exF T ct_slices_Index_Lint_int N (bodyOf Try.f56) 19 p_slices_Index_Lint_int [.h (.sl (.i .i64)), .h (.i .i64)] [] [(.sl (.i .i64)), (.i .i64)] r_slices_Index_Lint_int
noncomputable def c_slices_Index_Lint_int (N : Nat) : Ctr := ⟨56, [.h (.sl (.i .i64)), .h (.i .i64)], [], [(.sl (.i .i64)), (.i .i64)], Tup r_slices_Index_Lint_int.c, m_slices_Index_Lint_int N, fun y _ k => k (resG T (mkPS 19 r_slices_Index_Lint_int y) Try.f56.results.toList) (keepH' [] (mkPS 19 r_slices_Index_Lint_int y).h), false, true⟩
theorem l_slices_Index_Lint_int_1_z (N : Nat) (v : (List Int) × Int × Int × Int) : l_slices_Index_Lint_int_1 N 0 v = none := by kernel_rfl
theorem l_slices_Index_Lint_int_1_s (N m : Nat) (s : (List Int)) (v : Int) (v7 : Int) (v8 : Int) : l_slices_Index_Lint_int_1 N (m + 1) (s, v, v7, v8) = cond (decide (v8 < v7))
   (obind (nthI s v8) fun z1 =>
    cond (decide (v = z1))
     (some (.inr v8))
     ((l_slices_Index_Lint_int_1 N m (s, (v, (v7, (IntKind.wrap .i64 (v8 + (1 : Int)))))))))
   (some (.inl ())) := by kernel_rfl
theorem m_slices_Index_Lint_int_eq (N : Nat) (s : (List Int)) (v : Int) : m_slices_Index_Lint_int (N + 1) (s, v) = obind (l_slices_Index_Lint_int_1 N N (s, (v, ((((List.length s) : Nat) : Int), (0 : Int))))) fun z1 =>
  (match z1 with
  | .inl zy2 => some (-(1 : Int))
  | .inr zy3 => some zy3) := by kernel_rfl
theorem c_slices_Index_Lint_int_ok (N : Nat) : (c_slices_Index_Lint_int N).ok Try.prog := exF_ok (T := T) (CT := ct_slices_Index_Lint_int) (N := N) (fun M => ⟨tOk, ctAll_nil, mixed⟩) Try.func56 (by kernel_rfl) (by kernel_rfl) p_slices_Index_Lint_int [.h (.sl (.i .i64)), .h (.i .i64)] [] [(.sl (.i .i64)), (.i .i64)] r_slices_Index_Lint_int false true [] (by kernel_rfl) (fun y => by kernel_rfl) (fun _ => ⟨rfl, rfl⟩) (fun y => by kernel_rfl) (m_slices_Index_Lint_int N) (fun x => by kernel_rfl)
/-! archipelago/tower.Head -/
noncomputable def ct_tower_Head (N : Nat) : List Ctr := [c_tower_Right N, c_slices_Max_Lint_int N, c_slices_Index_Lint_int N]
def p_tower_Head : Pl := .z
def r_tower_Head : PS := ⟨[(2, .h (.i .i64))], [], [(.i .i64)]⟩
noncomputable def m_tower_Head (N : Nat) : (List Int) × (List Int) × (List (List Int)) → Option (Int) := exF T ct_tower_Head N (bodyOf Try.f43) 12 p_tower_Head [.ag [.h (.sl (.i .i64)), .h (.sl (.i .i64)), .h (.sl (.sl (.i .i64)))]] [] [(.sl (.i .i64)), (.sl (.i .i64)), (.sl (.sl (.i .i64)))] r_tower_Head
noncomputable def c_tower_Head (N : Nat) : Ctr := ⟨43, [.ag [.h (.sl (.i .i64)), .h (.sl (.i .i64)), .h (.sl (.sl (.i .i64)))]], [], [(.sl (.i .i64)), (.sl (.i .i64)), (.sl (.sl (.i .i64)))], Tup r_tower_Head.c, m_tower_Head N, fun y _ k => k (resG T (mkPS 12 r_tower_Head y) Try.f43.results.toList) (keepH' [] (mkPS 12 r_tower_Head y).h), false, true⟩
theorem m_tower_Head_eq (N : Nat) (t : (List Int)) (t2 : (List Int)) (t3 : (List (List Int))) : m_tower_Head (N + 1) (t, t2, t3) = obind (m_tower_Right N (t, (t2, t3))) fun z1 =>
  cond (!z1)
   (some (-(1 : Int)))
   (obind (m_slices_Max_Lint_int N t2) fun z2 =>
    obind (m_slices_Index_Lint_int N (t2, z2)) fun z3 =>
    some z3) := by kernel_rfl
theorem c_tower_Head_ok (N : Nat) : (c_tower_Head N).ok Try.prog := exF_ok (T := T) (CT := ct_tower_Head) (N := N) (fun M => ⟨tOk, (ctAll_cons (c_tower_Right_ok M) (ctAll_cons (c_slices_Max_Lint_int_ok M) (ctAll_cons (c_slices_Index_Lint_int_ok M) ctAll_nil))), mixed⟩) Try.func43 (by kernel_rfl) (by kernel_rfl) p_tower_Head [.ag [.h (.sl (.i .i64)), .h (.sl (.i .i64)), .h (.sl (.sl (.i .i64)))]] [] [(.sl (.i .i64)), (.sl (.i .i64)), (.sl (.sl (.i .i64)))] r_tower_Head false true [] (by kernel_rfl) (fun y => by kernel_rfl) (fun _ => ⟨rfl, rfl⟩) (fun y => by kernel_rfl) (m_tower_Head N) (fun x => by kernel_rfl)
/-! archipelago/sum.Total -/
noncomputable def ct_sum_Total (N : Nat) : List Ctr := [c_sum_Weights N, c_tower_Head N]
def i_sum_Total_2 : PS := ⟨[(1, .h (.sl (.sl (.i .i64)))), (2, .k (.pt 900 0)), (6, .h (.i .i64)), (7, .h (.i .i64)), (8, .h (.i .i64)), (9, .h (.i .i64)), (10, .h .b)], [(900, .box 25 [.h (.sl (.i .i64)), .h (.sl (.i .i64)), .h (.sl (.sl (.i .i64)))])], [(.sl (.sl (.i .i64))), (.i .i64), (.i .i64), (.i .i64), (.i .i64), .b, (.sl (.i .i64)), (.sl (.i .i64)), (.sl (.sl (.i .i64)))]⟩
def o_sum_Total_2 : List (Exit × PS) := [(.normal, ⟨[(1, .h (.sl (.sl (.i .i64)))), (2, .k (.pt 900 0)), (6, .h (.i .i64)), (7, .h (.i .i64)), (8, .h (.i .i64)), (9, .h (.i .i64))], [(900, .box 25 [.h (.sl (.i .i64)), .h (.sl (.i .i64)), .h (.sl (.sl (.i .i64)))])], [(.sl (.sl (.i .i64))), (.i .i64), (.i .i64), (.i .i64), (.i .i64), (.sl (.i .i64)), (.sl (.i .i64)), (.sl (.sl (.i .i64)))]⟩), ((.exit 0), ⟨[(8, .h (.i .i64))], [], [(.i .i64)]⟩)]
def p_sum_Total_2 : Pl := .z
noncomputable def l_sum_Total_2 (N : Nat) : Nat → (List (List Int)) × Int × Int × Int × Int × Bool × (List Int) × (List Int) × (List (List Int)) → Option (((List (List Int)) × Int × Int × Int × Int × (List Int) × (List Int) × (List (List Int))) ⊕ (Int)) := joinF (exC0 T (ct_sum_Total N) N (codeAt [1, 1, 1, 1, 1, 0, 1, 0, 0, 0] (bodyOf Try.f14))) 49 i_sum_Total_2 o_sum_Total_2 p_sum_Total_2
def i_sum_Total_1 : PS := ⟨[(1, .h (.sl (.sl (.i .i64)))), (2, .k (.pt 900 0)), (6, .h (.i .i64)), (7, .h (.i .i64)), (8, .h (.i .i64)), (9, .h (.i .i64)), (10, .h .b)], [(900, .box 25 [.h (.sl (.i .i64)), .h (.sl (.i .i64)), .h (.sl (.sl (.i .i64)))])], [(.sl (.sl (.i .i64))), (.i .i64), (.i .i64), (.i .i64), (.i .i64), .b, (.sl (.i .i64)), (.sl (.i .i64)), (.sl (.sl (.i .i64)))]⟩
def o_sum_Total_1 : List (Exit × PS) := [((.exit 0), ⟨[(8, .h (.i .i64))], [], [(.i .i64)]⟩)]
def p_sum_Total_1 : Pl := (.n (.join i_sum_Total_2 o_sum_Total_2 p_sum_Total_2) .z)
noncomputable def l_sum_Total_1 (N : Nat) : Nat → (List (List Int)) × Int × Int × Int × Int × Bool × (List Int) × (List Int) × (List (List Int)) → Option (Int) := loopF (exC T (ct_sum_Total N) N (codeAt [1, 1, 1, 1, 1, 0, 1, 0, 0] (bodyOf Try.f14))) 49 i_sum_Total_1 o_sum_Total_1 p_sum_Total_1
def p_sum_Total : Pl := (.n .z (.n .z (.n .z (.n .z (.n .z (.n (.n .z (.n (.loop i_sum_Total_1 o_sum_Total_1 p_sum_Total_1) .z)) .z))))))
def r_sum_Total : PS := ⟨[(4, .h (.i .i64)), (5, .h (.i .i64))], [], [(.i .i64), (.i .i64)]⟩
noncomputable def m_sum_Total (N : Nat) : (List Int) × (List Int) × (List (List Int)) × (List (List Int)) → Option (Int × Int) := exF T ct_sum_Total N (bodyOf Try.f14) 49 p_sum_Total [.ag [.h (.sl (.i .i64)), .h (.sl (.i .i64)), .h (.sl (.sl (.i .i64)))], .h (.sl (.sl (.i .i64)))] [] [(.sl (.i .i64)), (.sl (.i .i64)), (.sl (.sl (.i .i64))), (.sl (.sl (.i .i64)))] r_sum_Total
noncomputable def c_sum_Total (N : Nat) : Ctr := ⟨14, [.ag [.h (.sl (.i .i64)), .h (.sl (.i .i64)), .h (.sl (.sl (.i .i64)))], .h (.sl (.sl (.i .i64)))], [], [(.sl (.i .i64)), (.sl (.i .i64)), (.sl (.sl (.i .i64))), (.sl (.sl (.i .i64)))], Tup r_sum_Total.c, m_sum_Total N, fun y _ k => k (resG T (mkPS 49 r_sum_Total y) Try.f14.results.toList) (keepH' [] (mkPS 49 r_sum_Total y).h), false, true⟩
theorem l_sum_Total_2_s (N m : Nat) (sums : (List (List Int))) (head : Int) (level : Int) (total : Int) (v9 : Int) (first : Bool) (t : (List Int)) (t2 : (List Int)) (t3 : (List (List Int))) : l_sum_Total_2 N (m + 1) (sums, head, level, total, v9, first, t, t2, t3) = cond first
   (some (.inl (sums, (head, (level, (total, (v9, (t, (t2, t3)))))))))
   (cond (!(decide (v9 = head)))
     (some (.inl (sums, (head, (level, (total, (v9, (t, (t2, t3)))))))))
     (some (.inr total))) := by kernel_rfl
theorem l_sum_Total_1_z (N : Nat) (v : (List (List Int)) × Int × Int × Int × Int × Bool × (List Int) × (List Int) × (List (List Int))) : l_sum_Total_1 N 0 v = none := by kernel_rfl
theorem l_sum_Total_1_s (N m : Nat) (sums : (List (List Int))) (head : Int) (level : Int) (total : Int) (v9 : Int) (first : Bool) (t : (List Int)) (t2 : (List Int)) (t3 : (List (List Int))) : l_sum_Total_1 N (m + 1) (sums, head, level, total, v9, first, t, t2, t3) = obind (l_sum_Total_2 N N (sums, (head, (level, (total, (v9, (first, (t, (t2, t3))))))))) fun z1 =>
  (match z1 with
  | .inl zy2 => obind (nthI zy2.1 zy2.2.2.2.2.1) fun z3 =>
    obind (nthI z3 zy2.2.2.1) fun z4 =>
    obind (nthI zy2.2.2.2.2.2.2.2 zy2.2.2.2.2.1) fun z5 =>
    obind (nthI z5 zy2.2.2.1) fun z6 =>
    (l_sum_Total_1 N m (zy2.1, (zy2.2.1, (zy2.2.2.1, ((IntKind.wrap .i64 (zy2.2.2.2.1 + z4)), (z6, (false, (zy2.2.2.2.2.2.1, (zy2.2.2.2.2.2.2.1, zy2.2.2.2.2.2.2.2)))))))))
  | .inr zy7 => some zy7) := by kernel_rfl
theorem m_sum_Total_eq (N : Nat) (t : (List Int)) (t2 : (List Int)) (t3 : (List (List Int))) (sums : (List (List Int))) : m_sum_Total (N + 1) (t, t2, t3, sums) = obind (m_sum_Weights N (t, (t2, (t3, sums)))) fun z1 =>
  cond (decide ((((List.length z1) : Nat) : Int) = (0 : Int)))
   (some ((0 : Int), (1 : Int)))
   (obind (m_tower_Head N (t, (t2, t3))) fun z2 =>
    obind (nthI t2 z2) fun z3 =>
    obind (l_sum_Total_1 N N (sums, (z2, ((IntKind.wrap .i64 (z3 - (1 : Int))), ((0 : Int), (z2, (true, (t, (t2, t3))))))))) fun z4 =>
    some (z4, (0 : Int))) := by kernel_rfl
theorem c_sum_Total_ok (N : Nat) : (c_sum_Total N).ok Try.prog := exF_ok (T := T) (CT := ct_sum_Total) (N := N) (fun M => ⟨tOk, (ctAll_cons (c_sum_Weights_ok M) (ctAll_cons (c_tower_Head_ok M) ctAll_nil)), mixed⟩) Try.func14 (by kernel_rfl) (by kernel_rfl) p_sum_Total [.ag [.h (.sl (.i .i64)), .h (.sl (.i .i64)), .h (.sl (.sl (.i .i64)))], .h (.sl (.sl (.i .i64)))] [] [(.sl (.i .i64)), (.sl (.i .i64)), (.sl (.sl (.i .i64))), (.sl (.sl (.i .i64)))] r_sum_Total false true [] (by kernel_rfl) (fun y => by kernel_rfl) (fun _ => ⟨rfl, rfl⟩) (fun y => by kernel_rfl) (m_sum_Total N) (fun x => by kernel_rfl)
/-! archipelago/sum.Between$1 -/
noncomputable def ct_sum_BetweenF1_ph (N : Nat) : List Ctr := []
def p_sum_BetweenF1_ph : Pl := .z
def r_sum_BetweenF1_ph : PS := ⟨[(5, .h (.i .i64))], [(4294967296, .box 3 [.h (.i .i64)])], [(.i .i64), (.i .i64)]⟩
noncomputable def m_sum_BetweenF1_ph (N : Nat) : Int × Int × Int → Option (Int × Int) := exF T ct_sum_BetweenF1_ph N (bodyOf Try.f44) 15 p_sum_BetweenF1_ph [.h (.i .i64), .h (.i .i64), .k (.pt 4294967296 0)] [(4294967296, .box 3 [.h (.i .i64)])] [(.i .i64), (.i .i64), (.i .i64)] r_sum_BetweenF1_ph
noncomputable def c_sum_BetweenF1_ph (N : Nat) : Ctr := ⟨44, [.h (.i .i64), .h (.i .i64), .k (.pt 4294967296 0)], [(4294967296, .box 3 [.h (.i .i64)])], [(.i .i64), (.i .i64), (.i .i64)], Tup r_sum_BetweenF1_ph.c, m_sum_BetweenF1_ph N, fun y _ k => k (resG T (mkPS 15 r_sum_BetweenF1_ph y) Try.f44.results.toList) (keepH' [4294967296] (mkPS 15 r_sum_BetweenF1_ph y).h), true, true⟩
theorem m_sum_BetweenF1_ph_eq (N : Nat) (a : Int) (b : Int) (v4294967296 : Int) : m_sum_BetweenF1_ph (N + 1) (a, b, v4294967296) = obind (remI (IntKind.wrap .i64 ((IntKind.wrap .i64 ((IntKind.wrap .i64 (b - a)) + v4294967296)) - (1 : Int))) v4294967296) fun z1 =>
  some ((IntKind.wrap .i64 (z1 + (1 : Int))), v4294967296) := by kernel_rfl
theorem c_sum_BetweenF1_ph_ok (N : Nat) : (c_sum_BetweenF1_ph N).ok Try.prog := exF_ok (T := T) (CT := ct_sum_BetweenF1_ph) (N := N) (fun M => ⟨tOk, ctAll_nil, mixed⟩) Try.func44 (by kernel_rfl) (by kernel_rfl) p_sum_BetweenF1_ph [.h (.i .i64), .h (.i .i64), .k (.pt 4294967296 0)] [(4294967296, .box 3 [.h (.i .i64)])] [(.i .i64), (.i .i64), (.i .i64)] r_sum_BetweenF1_ph true true [4294967296] (by kernel_rfl) (fun y => by kernel_rfl) (fun h => by cases h) (fun y => by kernel_rfl) (m_sum_BetweenF1_ph N) (fun x => by kernel_rfl)
/-! archipelago/sum.Between -/
noncomputable def ct_sum_Between (N : Nat) : List Ctr := [c_sum_Weights N, c_sum_BetweenF1_ph N]
def i_sum_Between_2 : PS := ⟨[(1, .h (.sl (.sl (.i .i64)))), (3, .h (.i .i64)), (4, .k (.pt 900 0)), (8, .h (.i .i64)), (9, .h (.i .i64)), (12, .cl (.func 44) [] [.k (.pt 901 0)]), (13, .h (.i .i64)), (14, .h (.i .i64))], [(900, .box 25 [.h (.sl (.i .i64)), .h (.sl (.i .i64)), .h (.sl (.sl (.i .i64)))]), (901, .box 3 [.h (.i .i64)])], [(.sl (.sl (.i .i64))), (.i .i64), (.i .i64), (.i .i64), (.i .i64), (.i .i64), (.sl (.i .i64)), (.sl (.i .i64)), (.sl (.sl (.i .i64))), (.i .i64)]⟩
def o_sum_Between_2 : List (Exit × PS) := [((.exit 2), ⟨[(1, .h (.sl (.sl (.i .i64)))), (3, .h (.i .i64)), (4, .k (.pt 900 0)), (8, .h (.i .i64)), (9, .h (.i .i64)), (12, .cl (.func 44) [] [.k (.pt 901 0)]), (13, .h (.i .i64)), (14, .h (.i .i64))], [(900, .box 25 [.h (.sl (.i .i64)), .h (.sl (.i .i64)), .h (.sl (.sl (.i .i64)))]), (901, .box 3 [.h (.i .i64)])], [(.sl (.sl (.i .i64))), (.i .i64), (.i .i64), (.i .i64), (.i .i64), (.i .i64), (.sl (.i .i64)), (.sl (.i .i64)), (.sl (.sl (.i .i64))), (.i .i64)]⟩)]
def p_sum_Between_2 : Pl := .z
noncomputable def l_sum_Between_2 (N : Nat) : Nat → (List (List Int)) × Int × Int × Int × Int × Int × (List Int) × (List Int) × (List (List Int)) × Int → Option ((List (List Int)) × Int × Int × Int × Int × Int × (List Int) × (List Int) × (List (List Int)) × Int) := loopF (exC T (ct_sum_Between N) N (codeAt [1, 1, 1, 1, 1, 0, 1, 0, 0, 1, 0, 0, 1, 0, 0, 0] (bodyOf Try.f16))) 84 i_sum_Between_2 o_sum_Between_2 p_sum_Between_2
def i_sum_Between_1 : PS := ⟨[(1, .h (.sl (.sl (.i .i64)))), (3, .h (.i .i64)), (4, .k (.pt 900 0)), (8, .h (.i .i64)), (9, .h (.i .i64)), (12, .cl (.func 44) [] [.k (.pt 901 0)]), (13, .h (.i .i64))], [(900, .box 25 [.h (.sl (.i .i64)), .h (.sl (.i .i64)), .h (.sl (.sl (.i .i64)))]), (901, .box 3 [.h (.i .i64)])], [(.sl (.sl (.i .i64))), (.i .i64), (.i .i64), (.i .i64), (.i .i64), (.sl (.i .i64)), (.sl (.i .i64)), (.sl (.sl (.i .i64))), (.i .i64)]⟩
def o_sum_Between_1 : List (Exit × PS) := [((.exit 0), ⟨[(8, .h (.i .i64)), (9, .h (.i .i64))], [], [(.i .i64), (.i .i64)]⟩)]
def p_sum_Between_1 : Pl := (.n .z (.n (.n (.n .z (.n (.n (.loop i_sum_Between_2 o_sum_Between_2 p_sum_Between_2) .z) .z)) .z) .z))
noncomputable def l_sum_Between_1 (N : Nat) : Nat → (List (List Int)) × Int × Int × Int × Int × (List Int) × (List Int) × (List (List Int)) × Int → Option (Int × Int) := loopF (exC T (ct_sum_Between N) N (codeAt [1, 1, 1, 1, 1, 0, 1, 0, 0] (bodyOf Try.f16))) 84 i_sum_Between_1 o_sum_Between_1 p_sum_Between_1
def p_sum_Between : Pl := (.n .z (.n .z (.n .z (.n .z (.n .z (.n (.n .z (.n (.loop i_sum_Between_1 o_sum_Between_1 p_sum_Between_1) .z)) .z))))))
def r_sum_Between : PS := ⟨[(8, .h (.i .i64)), (9, .h (.i .i64)), (10, .h (.i .i64))], [], [(.i .i64), (.i .i64), (.i .i64)]⟩
noncomputable def m_sum_Between (N : Nat) : (List Int) × (List Int) × (List (List Int)) × (List (List Int)) × Int × Int → Option (Int × Int × Int) := exF T ct_sum_Between N (bodyOf Try.f16) 84 p_sum_Between [.ag [.h (.sl (.i .i64)), .h (.sl (.i .i64)), .h (.sl (.sl (.i .i64)))], .h (.sl (.sl (.i .i64))), .h (.i .i64), .h (.i .i64)] [] [(.sl (.i .i64)), (.sl (.i .i64)), (.sl (.sl (.i .i64))), (.sl (.sl (.i .i64))), (.i .i64), (.i .i64)] r_sum_Between
noncomputable def c_sum_Between (N : Nat) : Ctr := ⟨16, [.ag [.h (.sl (.i .i64)), .h (.sl (.i .i64)), .h (.sl (.sl (.i .i64)))], .h (.sl (.sl (.i .i64))), .h (.i .i64), .h (.i .i64)], [], [(.sl (.i .i64)), (.sl (.i .i64)), (.sl (.sl (.i .i64))), (.sl (.sl (.i .i64))), (.i .i64), (.i .i64)], Tup r_sum_Between.c, m_sum_Between N, fun y _ k => k (resG T (mkPS 84 r_sum_Between y) Try.f16.results.toList) (keepH' [] (mkPS 84 r_sum_Between y).h), false, true⟩
theorem l_sum_Between_2_z (N : Nat) (v : (List (List Int)) × Int × Int × Int × Int × Int × (List Int) × (List Int) × (List (List Int)) × Int) : l_sum_Between_2 N 0 v = none := by kernel_rfl
theorem l_sum_Between_2_s (N m : Nat) (sums : (List (List Int))) (to : Int) (total : Int) (looks : Int) (v13 : Int) (level : Int) (t : (List Int)) (t2 : (List Int)) (t3 : (List (List Int))) (way : Int) : l_sum_Between_2 N (m + 1) (sums, to, total, looks, v13, level, t, t2, t3, way) = obind (nthI t3 v13) fun z1 =>
  obind (nthI z1 level) fun z2 =>
  obind (m_sum_BetweenF1_ph N (v13, (z2, way))) fun z3 =>
  obind (m_sum_BetweenF1_ph N (v13, (to, z3.2))) fun z4 =>
  cond (decide (z4.1 < z3.1))
   ((l_sum_Between_2 N m (sums, (to, (total, (looks, (v13, ((IntKind.wrap .i64 (level - (1 : Int))), (t, (t2, (t3, z4.2)))))))))))
   (some (sums, (to, (total, (looks, (v13, (level, (t, (t2, (t3, z4.2)))))))))) := by kernel_rfl
theorem l_sum_Between_1_z (N : Nat) (v : (List (List Int)) × Int × Int × Int × Int × (List Int) × (List Int) × (List (List Int)) × Int) : l_sum_Between_1 N 0 v = none := by kernel_rfl
theorem l_sum_Between_1_s (N m : Nat) (sums : (List (List Int))) (to : Int) (total : Int) (looks : Int) (v13 : Int) (t : (List Int)) (t2 : (List Int)) (t3 : (List (List Int))) (way : Int) : l_sum_Between_1 N (m + 1) (sums, to, total, looks, v13, t, t2, t3, way) = cond (!(decide (v13 = to)))
   (obind (nthI t2 v13) fun z1 =>
    obind (l_sum_Between_2 N N (sums, (to, (total, (looks, (v13, ((IntKind.wrap .i64 (z1 - (1 : Int))), (t, (t2, (t3, way)))))))))) fun z2 =>
    obind (nthI z2.1 z2.2.2.2.2.1) fun z3 =>
    obind (nthI z3 z2.2.2.2.2.2.1) fun z4 =>
    obind (nthI z2.2.2.2.2.2.2.2.2.1 z2.2.2.2.2.1) fun z5 =>
    obind (nthI z5 z2.2.2.2.2.2.1) fun z6 =>
    (l_sum_Between_1 N m (z2.1, (z2.2.1, ((IntKind.wrap .i64 (z2.2.2.1 + z4)), ((IntKind.wrap .i64 (z2.2.2.2.1 + (1 : Int))), (z6, (z2.2.2.2.2.2.2.1, (z2.2.2.2.2.2.2.2.1, (z2.2.2.2.2.2.2.2.2.1, z2.2.2.2.2.2.2.2.2.2))))))))))
   (some (total, looks)) := by kernel_rfl
theorem m_sum_Between_eq (N : Nat) (t : (List Int)) (t2 : (List Int)) (t3 : (List (List Int))) (sums : (List (List Int))) (v2 : Int) (to : Int) : m_sum_Between (N + 1) (t, t2, t3, sums, v2, to) = obind (m_sum_Weights N (t, (t2, (t3, sums)))) fun z1 =>
  cond (decide ((((List.length z1) : Nat) : Int) = (0 : Int)))
   (some ((0 : Int), ((0 : Int), (1 : Int))))
   (cond (decide ((if (to < v2) then to else v2) < (0 : Int)))
     (some ((0 : Int), ((0 : Int), (6 : Int))))
     (cond (decide ((((List.length t) : Nat) : Int) ≤ (if (to > v2) then to else v2)))
       (some ((0 : Int), ((0 : Int), (6 : Int))))
       (obind (l_sum_Between_1 N N (sums, (to, ((0 : Int), ((0 : Int), (v2, (t, (t2, (t3, (((List.length t) : Nat) : Int)))))))))) fun z2 =>
        some (z2.1, (z2.2, (0 : Int)))))) := by kernel_rfl
theorem c_sum_Between_ok (N : Nat) : (c_sum_Between N).ok Try.prog := exF_ok (T := T) (CT := ct_sum_Between) (N := N) (fun M => ⟨tOk, (ctAll_cons (c_sum_Weights_ok M) (ctAll_cons (c_sum_BetweenF1_ph_ok M) ctAll_nil)), mixed⟩) Try.func16 (by kernel_rfl) (by kernel_rfl) p_sum_Between [.ag [.h (.sl (.i .i64)), .h (.sl (.i .i64)), .h (.sl (.sl (.i .i64)))], .h (.sl (.sl (.i .i64))), .h (.i .i64), .h (.i .i64)] [] [(.sl (.i .i64)), (.sl (.i .i64)), (.sl (.sl (.i .i64))), (.sl (.sl (.i .i64))), (.i .i64), (.i .i64)] r_sum_Between false true [] (by kernel_rfl) (fun y => by kernel_rfl) (fun _ => ⟨rfl, rfl⟩) (fun y => by kernel_rfl) (m_sum_Between N) (fun x => by kernel_rfl)
/-! archipelago/sum.Change -/
noncomputable def ct_sum_Change (N : Nat) : List Ctr := [c_sum_Weights N, c_slices_ContainsFunc_Lint_int_sum_odd N, c_sum_Build_o N]
def i_sum_Change_3 : PS := ⟨[(1, .h (.sl (.sl (.i .i64)))), (14, .k (.ow 900)), (16, .h (.i .i64)), (17, .h (.i .i64)), (67, .k (.ow 900)), (68, .h (.i .i64)), (69, .h (.i .i64)), (74, .h (.sl (.i .i64))), (75, .h (.i .i64)), (76, .h (.i .i64))], [(900, .arr 22 (.sl (.i .i64)) true)], [(.sl (.sl (.i .i64))), (.i .i64), (.i .i64), (.i .i64), (.i .i64), (.sl (.i .i64)), (.i .i64), (.i .i64), (.sl (.sl (.i .i64)))]⟩
def o_sum_Change_3 : List (Exit × PS) := [((.exit 4), ⟨[(1, .h (.sl (.sl (.i .i64)))), (14, .k (.ow 900)), (16, .h (.i .i64)), (67, .k (.ow 900)), (68, .h (.i .i64)), (69, .h (.i .i64))], [(900, .arr 22 (.sl (.i .i64)) true)], [(.sl (.sl (.i .i64))), (.i .i64), (.i .i64), (.i .i64), (.sl (.sl (.i .i64)))]⟩)]
def p_sum_Change_3 : Pl := .z
noncomputable def l_sum_Change_3 (N : Nat) : Nat → (List (List Int)) × Int × Int × Int × Int × (List Int) × Int × Int × (List (List Int)) → Option ((List (List Int)) × Int × Int × Int × (List (List Int))) := loopF (exC T (ct_sum_Change N) N (codeAt [1, 1, 1, 1, 1, 1, 0, 1, 0, 0, 1, 1, 0, 0, 1, 1, 0, 0] (bodyOf Try.f23))) 96 i_sum_Change_3 o_sum_Change_3 p_sum_Change_3
def i_sum_Change_2 : PS := ⟨[(1, .h (.sl (.sl (.i .i64)))), (14, .k (.ow 900)), (16, .h (.i .i64)), (67, .k (.ow 900)), (68, .h (.i .i64)), (69, .h (.i .i64))], [(900, .arr 22 (.sl (.i .i64)) true)], [(.sl (.sl (.i .i64))), (.i .i64), (.i .i64), (.i .i64), (.sl (.sl (.i .i64)))]⟩
def o_sum_Change_2 : List (Exit × PS) := [((.exit 2), ⟨[(14, .k (.ow 900)), (16, .h (.i .i64))], [(900, .arr 22 (.sl (.i .i64)) true)], [(.i .i64), (.sl (.sl (.i .i64)))]⟩)]
def p_sum_Change_2 : Pl := (.n .z (.n .z (.n (.n (.n .z (.n .z (.n (.loop i_sum_Change_3 o_sum_Change_3 p_sum_Change_3) .z))) .z) .z)))
noncomputable def l_sum_Change_2 (N : Nat) : Nat → (List (List Int)) × Int × Int × Int × (List (List Int)) → Option (Int × (List (List Int))) := loopF (exC T (ct_sum_Change N) N (codeAt [1, 1, 1, 1, 1, 1, 0, 1, 0, 0] (bodyOf Try.f23))) 96 i_sum_Change_2 o_sum_Change_2 p_sum_Change_2
def i_sum_Change_1 : PS := ⟨[(1, .h (.sl (.sl (.i .i64)))), (3, .h (.sl (.i .i64))), (4, .k (.pt 900 0)), (11, .k (.ow 901)), (38, .h (.sl (.i .i64))), (39, .h (.i .i64)), (40, .h (.i .i64))], [(900, .box 25 [.h (.sl (.i .i64)), .h (.sl (.i .i64)), .h (.sl (.sl (.i .i64)))]), (901, .arr 3 (.i .i64) true)], [(.sl (.sl (.i .i64))), (.sl (.i .i64)), (.sl (.i .i64)), (.i .i64), (.i .i64), (.sl (.i .i64)), (.sl (.i .i64)), (.sl (.sl (.i .i64))), (.sl (.i .i64))]⟩
def o_sum_Change_1 : List (Exit × PS) := [((.exit 0), ⟨[(1, .h (.sl (.sl (.i .i64)))), (4, .k (.pt 900 0)), (11, .k (.ow 901))], [(900, .box 25 [.h (.sl (.i .i64)), .h (.sl (.i .i64)), .h (.sl (.sl (.i .i64)))]), (901, .arr 3 (.i .i64) true)], [(.sl (.sl (.i .i64))), (.sl (.i .i64)), (.sl (.i .i64)), (.sl (.sl (.i .i64))), (.sl (.i .i64))]⟩), (.ret, ⟨[(8, .k .nil), (9, .h (.i .i64)), (10, .h (.i .i64))], [], [(.i .i64), (.i .i64)]⟩)]
def p_sum_Change_1 : Pl := .z
noncomputable def l_sum_Change_1 (N : Nat) : Nat → (List (List Int)) × (List Int) × (List Int) × Int × Int × (List Int) × (List Int) × (List (List Int)) × (List Int) → Option (((List (List Int)) × (List Int) × (List Int) × (List (List Int)) × (List Int)) ⊕ (Int × Int)) := loopF (exC T (ct_sum_Change N) N (codeAt [1, 1, 1, 0, 1, 0, 0] (bodyOf Try.f23))) 96 i_sum_Change_1 o_sum_Change_1 p_sum_Change_1
def p_sum_Change : Pl := (.n .z (.n .z (.n .z (.n (.n .z (.n (.loop i_sum_Change_1 o_sum_Change_1 p_sum_Change_1) .z)) (.n .z (.n .z (.n (.n .z (.n (.loop i_sum_Change_2 o_sum_Change_2 p_sum_Change_2) .z)) .z)))))))
def r_sum_Change : PS := ⟨[(8, .k (.ow 900)), (9, .h (.i .i64)), (10, .h (.i .i64))], [(900, .arr 22 (.sl (.i .i64)) true)], [(.i .i64), (.i .i64), (.sl (.sl (.i .i64)))]⟩
noncomputable def m_sum_Change (N : Nat) : (List Int) × (List Int) × (List (List Int)) × (List (List Int)) × (List Int) × (List Int) → Option (Int × Int × (List (List Int))) := exF T ct_sum_Change N (bodyOf Try.f23) 96 p_sum_Change [.ag [.h (.sl (.i .i64)), .h (.sl (.i .i64)), .h (.sl (.sl (.i .i64)))], .h (.sl (.sl (.i .i64))), .h (.sl (.i .i64)), .h (.sl (.i .i64))] [] [(.sl (.i .i64)), (.sl (.i .i64)), (.sl (.sl (.i .i64))), (.sl (.sl (.i .i64))), (.sl (.i .i64)), (.sl (.i .i64))] r_sum_Change
noncomputable def c_sum_Change (N : Nat) : Ctr := ⟨23, [.ag [.h (.sl (.i .i64)), .h (.sl (.i .i64)), .h (.sl (.sl (.i .i64)))], .h (.sl (.sl (.i .i64))), .h (.sl (.i .i64)), .h (.sl (.i .i64))], [], [(.sl (.i .i64)), (.sl (.i .i64)), (.sl (.sl (.i .i64))), (.sl (.sl (.i .i64))), (.sl (.i .i64)), (.sl (.i .i64))], Tup r_sum_Change.c, m_sum_Change N, fun y _ k => k (resG T (mkPS 96 r_sum_Change y) Try.f23.results.toList) (keepH' [900] (mkPS 96 r_sum_Change y).h), true, false⟩
theorem l_sum_Change_3_z (N : Nat) (v : (List (List Int)) × Int × Int × Int × Int × (List Int) × Int × Int × (List (List Int))) : l_sum_Change_3 N 0 v = none := by kernel_rfl
theorem l_sum_Change_3_s (N m : Nat) (sums : (List (List Int))) (others : Int) (i : Int) (v68 : Int) (v69 : Int) (v74 : (List Int)) (v75 : Int) (v76 : Int) (out : (List (List Int))) : l_sum_Change_3 N (m + 1) (sums, others, i, v68, v69, v74, v75, v76, out) = cond (decide (v76 < v75))
   (obind (nthI v74 v76) fun z1 =>
    obind (nthI sums i) fun z2 =>
    obind (nthI z2 v76) fun z3 =>
    cond (!(decide (z1 = z3)))
     ((l_sum_Change_3 N m (sums, ((IntKind.wrap .i64 (others + (1 : Int))), (i, (v68, (v69, (v74, (v75, ((IntKind.wrap .i64 (v76 + (1 : Int))), out))))))))))
     ((l_sum_Change_3 N m (sums, (others, (i, (v68, (v69, (v74, (v75, ((IntKind.wrap .i64 (v76 + (1 : Int))), out)))))))))))
   (some (sums, (others, (v68, (v69, out))))) := by kernel_rfl
theorem l_sum_Change_2_z (N : Nat) (v : (List (List Int)) × Int × Int × Int × (List (List Int))) : l_sum_Change_2 N 0 v = none := by kernel_rfl
theorem l_sum_Change_2_s (N m : Nat) (sums : (List (List Int))) (others : Int) (v68 : Int) (v69 : Int) (out : (List (List Int))) : l_sum_Change_2 N (m + 1) (sums, others, v68, v69, out) = cond (decide (v69 < v68))
   (obind (nthI out v69) fun z1 =>
    obind (nthI out v69) fun z2 =>
    obind (l_sum_Change_3 N N (sums, (others, (v69, (v68, (v69, (z2, ((((List.length z2) : Nat) : Int), ((0 : Int), out))))))))) fun z3 =>
    (l_sum_Change_2 N m (z3.1, (z3.2.1, (z3.2.2.1, ((IntKind.wrap .i64 (z3.2.2.2.1 + (1 : Int))), z3.2.2.2.2))))))
   (some (others, out)) := by kernel_rfl
theorem l_sum_Change_1_z (N : Nat) (v : (List (List Int)) × (List Int) × (List Int) × Int × Int × (List Int) × (List Int) × (List (List Int)) × (List Int)) : l_sum_Change_1 N 0 v = none := by kernel_rfl
theorem l_sum_Change_1_s (N m : Nat) (sums : (List (List Int))) (weights : (List Int)) (v38 : (List Int)) (v39 : Int) (v40 : Int) (t : (List Int)) (t2 : (List Int)) (t3 : (List (List Int))) (w : (List Int)) : l_sum_Change_1 N (m + 1) (sums, weights, v38, v39, v40, t, t2, t3, w) = cond (decide (v40 < v39))
   (obind (nthI v38 v40) fun z1 =>
    cond (decide (z1 < (0 : Int)))
     (some (.inr ((0 : Int), (6 : Int))))
     (cond (decide ((((List.length w) : Nat) : Int) ≤ z1))
       (some (.inr ((0 : Int), (6 : Int))))
       (obind (nthI weights v40) fun z2 =>
        obind (nthI w z1) fun z3 =>
        obind (nthI w z1) fun z4 =>
        (l_sum_Change_1 N m (sums, (weights, (v38, (v39, ((IntKind.wrap .i64 (v40 + (1 : Int))), (t, (t2, (t3, (List.set w (Int.toNat z1) z2)))))))))))))
   (some (.inl (sums, (t, (t2, (t3, w)))))) := by kernel_rfl
theorem m_sum_Change_eq (N : Nat) (t : (List Int)) (t2 : (List Int)) (t3 : (List (List Int))) (sums : (List (List Int))) (places : (List Int)) (weights : (List Int)) : m_sum_Change (N + 1) (t, t2, t3, sums, places, weights) = obind (m_sum_Weights N (t, (t2, (t3, sums)))) fun z1 =>
  cond (decide ((((List.length z1) : Nat) : Int) = (0 : Int)))
   (some ((0 : Int), ((1 : Int), [])))
   (cond (!(decide ((((List.length places) : Nat) : Int) = (((List.length weights) : Nat) : Int))))
     (some ((0 : Int), ((1 : Int), [])))
     (obind (m_slices_ContainsFunc_Lint_int_sum_odd N weights) fun z2 =>
      cond z2
       (some ((0 : Int), ((1 : Int), [])))
       (obind (l_sum_Change_1 N N (sums, (weights, (places, ((((List.length places) : Nat) : Int), ((0 : Int), (t, (t2, (t3, z1))))))))) fun z3 =>
        (match z3 with
        | .inl zy4 => obind (m_sum_Build_o N (zy4.2.1, (zy4.2.2.1, (zy4.2.2.2.1, zy4.2.2.2.2)))) fun z5 =>
          obind (l_sum_Change_2 N N (zy4.1, ((0 : Int), ((((List.length z5.2.1) : Nat) : Int), ((0 : Int), z5.2.1))))) fun z6 =>
          some (z6.1, ((0 : Int), z6.2))
        | .inr zy7 => some (zy7.1, (zy7.2, [])))))) := by kernel_rfl
theorem c_sum_Change_ok (N : Nat) : (c_sum_Change N).ok Try.prog := exF_ok (T := T) (CT := ct_sum_Change) (N := N) (fun M => ⟨tOk, (ctAll_cons (c_sum_Weights_ok M) (ctAll_cons (c_slices_ContainsFunc_Lint_int_sum_odd_ok M) (ctAll_cons (c_sum_Build_o_ok M) ctAll_nil))), mixed⟩) Try.func23 (by kernel_rfl) (by kernel_rfl) p_sum_Change [.ag [.h (.sl (.i .i64)), .h (.sl (.i .i64)), .h (.sl (.sl (.i .i64)))], .h (.sl (.sl (.i .i64))), .h (.sl (.i .i64)), .h (.sl (.i .i64))] [] [(.sl (.i .i64)), (.sl (.i .i64)), (.sl (.sl (.i .i64))), (.sl (.sl (.i .i64))), (.sl (.i .i64)), (.sl (.i .i64))] r_sum_Change true false [900] (by kernel_rfl) (fun y => by kernel_rfl) (fun h => by cases h) (fun y => by kernel_rfl) (m_sum_Change N) (fun x => by kernel_rfl)
/-! archipelago/archipelagoref01.Ints -/
noncomputable def ct_ref01_Ints (N : Nat) : List Ctr := []
def i_ref01_Ints_1 : PS := ⟨[(0, .h (.sl (.i .i64))), (1, .h (.sl (.i .i64))), (5, .h (.i .i64))], [], [(.sl (.i .i64)), (.sl (.i .i64)), (.i .i64)]⟩
def o_ref01_Ints_1 : List (Exit × PS) := [((.exit 0), ⟨[], [], []⟩), (.ret, ⟨[(4, .h .b)], [], [.b]⟩)]
def p_ref01_Ints_1 : Pl := .z
noncomputable def l_ref01_Ints_1 (N : Nat) : Nat → (List Int) × (List Int) × Int → Option ((Unit) ⊕ (Bool)) := loopF (exC T (ct_ref01_Ints N) N (codeAt [1, 1, 0, 1, 0, 0] (bodyOf Try.f18))) 26 i_ref01_Ints_1 o_ref01_Ints_1 p_ref01_Ints_1
def p_ref01_Ints : Pl := (.n .z (.n .z (.n (.n .z (.n (.loop i_ref01_Ints_1 o_ref01_Ints_1 p_ref01_Ints_1) .z)) .z)))
def r_ref01_Ints : PS := ⟨[(4, .h .b)], [], [.b]⟩
noncomputable def m_ref01_Ints (N : Nat) : (List Int) × (List Int) → Option (Bool) := exF T ct_ref01_Ints N (bodyOf Try.f18) 26 p_ref01_Ints [.h (.sl (.i .i64)), .h (.sl (.i .i64))] [] [(.sl (.i .i64)), (.sl (.i .i64))] r_ref01_Ints
noncomputable def c_ref01_Ints (N : Nat) : Ctr := ⟨18, [.h (.sl (.i .i64)), .h (.sl (.i .i64))], [], [(.sl (.i .i64)), (.sl (.i .i64))], Tup r_ref01_Ints.c, m_ref01_Ints N, fun y _ k => k (resG T (mkPS 26 r_ref01_Ints y) Try.f18.results.toList) (keepH' [] (mkPS 26 r_ref01_Ints y).h), false, true⟩
theorem l_ref01_Ints_1_z (N : Nat) (v : (List Int) × (List Int) × Int) : l_ref01_Ints_1 N 0 v = none := by kernel_rfl
theorem l_ref01_Ints_1_s (N m : Nat) (a : (List Int)) (b : (List Int)) (i : Int) : l_ref01_Ints_1 N (m + 1) (a, b, i) = cond (decide (i < (((List.length a) : Nat) : Int)))
   (obind (nthI a i) fun z1 =>
    obind (nthI b i) fun z2 =>
    cond (!(decide (z1 = z2)))
     (some (.inr false))
     ((l_ref01_Ints_1 N m (a, (b, (IntKind.wrap .i64 (i + (1 : Int))))))))
   (some (.inl ())) := by kernel_rfl
theorem m_ref01_Ints_eq (N : Nat) (a : (List Int)) (b : (List Int)) : m_ref01_Ints (N + 1) (a, b) = cond (!(decide ((((List.length a) : Nat) : Int) = (((List.length b) : Nat) : Int))))
   (some false)
   (obind (l_ref01_Ints_1 N N (a, (b, (0 : Int)))) fun z1 =>
    (match z1 with
    | .inl zy2 => some true
    | .inr zy3 => some zy3)) := by kernel_rfl
theorem c_ref01_Ints_ok (N : Nat) : (c_ref01_Ints N).ok Try.prog := exF_ok (T := T) (CT := ct_ref01_Ints) (N := N) (fun M => ⟨tOk, ctAll_nil, mixed⟩) Try.func18 (by kernel_rfl) (by kernel_rfl) p_ref01_Ints [.h (.sl (.i .i64)), .h (.sl (.i .i64))] [] [(.sl (.i .i64)), (.sl (.i .i64))] r_ref01_Ints false true [] (by kernel_rfl) (fun y => by kernel_rfl) (fun _ => ⟨rfl, rfl⟩) (fun y => by kernel_rfl) (m_ref01_Ints N) (fun x => by kernel_rfl)
/-! archipelago/archipelagolaw16.alive -/
noncomputable def ct_law16_alive (N : Nat) : List Ctr := [c_ref14_Build N, c_sum_Build_o N, c_sum_Total N, c_sum_Between N, c_sum_Change N, c_ref01_Ints N, c_sum_Weights N]
def p_law16_alive : Pl := .z
def r_law16_alive : PS := ⟨[(0, .h .b)], [], [.b]⟩
noncomputable def m_law16_alive (N : Nat) : Unit → Option (Bool) := exF T ct_law16_alive N (bodyOf Try.f12) 139 p_law16_alive [] [] [] r_law16_alive
noncomputable def c_law16_alive (N : Nat) : Ctr := ⟨12, [], [], [], Tup r_law16_alive.c, m_law16_alive N, fun y _ k => k (resG T (mkPS 139 r_law16_alive y) Try.f12.results.toList) (keepH' [] (mkPS 139 r_law16_alive y).h), false, true⟩
theorem m_law16_alive_eq (N : Nat) : m_law16_alive (N + 1) () = obind (m_ref14_Build N ([(5 : Int), (6 : Int), (7 : Int), (8 : Int)], [(1 : Int), (3 : Int), (1 : Int), (2 : Int)])) fun z1 =>
  obind (m_sum_Build_o N (z1.2.1, (z1.2.2.1, (z1.2.2.2, [(1 : Int), (2 : Int), (3 : Int), (4 : Int)])))) fun z2 =>
  obind (m_sum_Total N (z1.2.1, (z1.2.2.1, (z1.2.2.2, z2.2.1)))) fun z3 =>
  obind (m_sum_Between N (z1.2.1, (z1.2.2.1, (z1.2.2.2, (z2.2.1, ((1 : Int), (0 : Int))))))) fun z4 =>
  obind (m_sum_Change N (z1.2.1, (z1.2.2.1, (z1.2.2.2, (z2.2.1, ([(2 : Int)], [(10 : Int)])))))) fun z5 =>
  obind (m_sum_Between N (z1.2.1, (z1.2.2.1, (z1.2.2.2, (z2.2.1, ((0 : Int), (4 : Int))))))) fun z6 =>
  obind (m_sum_Build_o N (z1.2.1, (z1.2.2.1, (z1.2.2.2, [(1 : Int)])))) fun z7 =>
  cond (!(decide (z2.1 = (0 : Int))))
   (some false)
   (cond (!(decide (z3.2 = (0 : Int))))
     (some false)
     (cond (!(decide (z4.2.2 = (0 : Int))))
       (some false)
       (cond (!(decide (z5.2.1 = (0 : Int))))
         (some false)
         (cond (!(decide (z6.2.2 = (6 : Int))))
           (some false)
           (cond (!(decide (z7.1 = (1 : Int))))
             (some false)
             (cond (!(decide ((((List.length z2.2.1) : Nat) : Int) = (4 : Int))))
               (some false)
               (cond (!(decide ((((List.length z5.2.2) : Nat) : Int) = (4 : Int))))
                 (some false)
                 (obind (nthI z2.2.1 (1 : Int)) fun z8 =>
                  obind (nthI z2.2.1 (1 : Int)) fun z9 =>
                  obind (m_ref01_Ints N (z9, [(2 : Int), (5 : Int), (10 : Int)])) fun z10 =>
                  cond z10
                   (obind (nthI z2.2.1 (3 : Int)) fun z11 =>
                    obind (nthI z2.2.1 (3 : Int)) fun z12 =>
                    obind (m_ref01_Ints N (z12, [(4 : Int), (5 : Int)])) fun z13 =>
                    cond z13
                     (cond (decide (z3.1 = (10 : Int)))
                       (cond (decide (z4.1 = (9 : Int)))
                         (cond (decide (z4.2.1 = (2 : Int)))
                           (cond (decide (z5.1 = (3 : Int)))
                             (obind (nthI z5.2.2 (1 : Int)) fun z14 =>
                              obind (nthI z5.2.2 (1 : Int)) fun z15 =>
                              obind (m_ref01_Ints N (z15, [(2 : Int), (12 : Int), (17 : Int)])) fun z16 =>
                              cond z16
                               (obind (m_sum_Weights N (z1.2.1, (z1.2.2.1, (z1.2.2.2, z5.2.2)))) fun z17 =>
                                obind (m_ref01_Ints N (z17, [(1 : Int), (2 : Int), (10 : Int), (4 : Int)])) fun z18 =>
                                some z18)
                               (some false))
                             (some false))
                           (some false))
                         (some false))
                       (some false))
                     (some false))
                   (some false))))))))) := by kernel_rfl
theorem c_law16_alive_ok (N : Nat) : (c_law16_alive N).ok Try.prog := exF_ok (T := T) (CT := ct_law16_alive) (N := N) (fun M => ⟨tOk, (ctAll_cons (c_ref14_Build_ok M) (ctAll_cons (c_sum_Build_o_ok M) (ctAll_cons (c_sum_Total_ok M) (ctAll_cons (c_sum_Between_ok M) (ctAll_cons (c_sum_Change_ok M) (ctAll_cons (c_ref01_Ints_ok M) (ctAll_cons (c_sum_Weights_ok M) ctAll_nil))))))), mixed⟩) Try.func12 (by kernel_rfl) (by kernel_rfl) p_law16_alive [] [] [] r_law16_alive false true [] (by kernel_rfl) (fun y => by kernel_rfl) (fun _ => ⟨rfl, rfl⟩) (fun y => by kernel_rfl) (m_law16_alive N) (fun x => by kernel_rfl)
/-! archipelago/archipelagoref14.Great -/
noncomputable def ct_ref14_Great (N : Nat) : List Ctr := []
def i_ref14_Great_1 : PS := ⟨[(1, .h (.i .i64)), (2, .k (.pt 900 0)), (5, .h (.i .i64)), (6, .h (.i .i64))], [(900, .box 25 [.h (.sl (.i .i64)), .h (.sl (.i .i64)), .h (.sl (.sl (.i .i64)))])], [(.i .i64), (.i .i64), (.i .i64), (.sl (.i .i64)), (.sl (.i .i64)), (.sl (.sl (.i .i64)))]⟩
def o_ref14_Great_1 : List (Exit × PS) := [((.exit 0), ⟨[(1, .h (.i .i64)), (5, .h (.i .i64))], [], [(.i .i64), (.i .i64)]⟩)]
def p_ref14_Great_1 : Pl := .z
noncomputable def l_ref14_Great_1 (N : Nat) : Nat → Int × Int × Int × (List Int) × (List Int) × (List (List Int)) → Option (Int × Int) := loopF (exC T (ct_ref14_Great N) N (codeAt [1, 1, 0, 1, 0, 0] (bodyOf Try.f26))) 41 i_ref14_Great_1 o_ref14_Great_1 p_ref14_Great_1
def p_ref14_Great : Pl := (.n .z (.n .z (.n (.n .z (.n (.loop i_ref14_Great_1 o_ref14_Great_1 p_ref14_Great_1) .z)) .z)))
def r_ref14_Great : PS := ⟨[(4, .h .b)], [], [.b]⟩
noncomputable def m_ref14_Great (N : Nat) : (List Int) × (List Int) × (List (List Int)) × Int → Option (Bool) := exF T ct_ref14_Great N (bodyOf Try.f26) 41 p_ref14_Great [.ag [.h (.sl (.i .i64)), .h (.sl (.i .i64)), .h (.sl (.sl (.i .i64)))], .h (.i .i64)] [] [(.sl (.i .i64)), (.sl (.i .i64)), (.sl (.sl (.i .i64))), (.i .i64)] r_ref14_Great
noncomputable def c_ref14_Great (N : Nat) : Ctr := ⟨26, [.ag [.h (.sl (.i .i64)), .h (.sl (.i .i64)), .h (.sl (.sl (.i .i64)))], .h (.i .i64)], [], [(.sl (.i .i64)), (.sl (.i .i64)), (.sl (.sl (.i .i64))), (.i .i64)], Tup r_ref14_Great.c, m_ref14_Great N, fun y _ k => k (resG T (mkPS 41 r_ref14_Great y) Try.f26.results.toList) (keepH' [] (mkPS 41 r_ref14_Great y).h), false, true⟩
theorem l_ref14_Great_1_z (N : Nat) (v : Int × Int × Int × (List Int) × (List Int) × (List (List Int))) : l_ref14_Great_1 N 0 v = none := by kernel_rfl
theorem l_ref14_Great_1_s (N m : Nat) (most : Int) (n : Int) (i : Int) (t : (List Int)) (t2 : (List Int)) (t3 : (List (List Int))) : l_ref14_Great_1 N (m + 1) (most, n, i, t, t2, t3) = cond (decide (i < (((List.length t3) : Nat) : Int)))
   (cond (decide (n ≤ most))
     (obind (nthI t3 i) fun z1 =>
      (l_ref14_Great_1 N m (most, ((IntKind.wrap .i64 (n + (((List.length z1) : Nat) : Int))), ((IntKind.wrap .i64 (i + (1 : Int))), (t, (t2, t3)))))))
     (some (most, n)))
   (some (most, n)) := by kernel_rfl
theorem m_ref14_Great_eq (N : Nat) (t : (List Int)) (t2 : (List Int)) (t3 : (List (List Int))) (most : Int) : m_ref14_Great (N + 1) (t, t2, t3, most) = obind (l_ref14_Great_1 N N (most, ((IntKind.wrap .i64 ((IntKind.wrap .i64 ((((List.length t) : Nat) : Int) + (((List.length t2) : Nat) : Int))) + (((List.length t3) : Nat) : Int))), ((0 : Int), (t, (t2, t3)))))) fun z1 =>
  some (decide (z1.1 < z1.2)) := by kernel_rfl
theorem c_ref14_Great_ok (N : Nat) : (c_ref14_Great N).ok Try.prog := exF_ok (T := T) (CT := ct_ref14_Great) (N := N) (fun M => ⟨tOk, ctAll_nil, mixed⟩) Try.func26 (by kernel_rfl) (by kernel_rfl) p_ref14_Great [.ag [.h (.sl (.i .i64)), .h (.sl (.i .i64)), .h (.sl (.sl (.i .i64)))], .h (.i .i64)] [] [(.sl (.i .i64)), (.sl (.i .i64)), (.sl (.sl (.i .i64))), (.i .i64)] r_ref14_Great false true [] (by kernel_rfl) (fun y => by kernel_rfl) (fun _ => ⟨rfl, rfl⟩) (fun y => by kernel_rfl) (m_ref14_Great N) (fun x => by kernel_rfl)
/-! archipelago/archipelagoref16.Great -/
noncomputable def ct_ref16_Great (N : Nat) : List Ctr := []
def i_ref16_Great_1 : PS := ⟨[(0, .h (.sl (.sl (.i .i64)))), (1, .h (.i .i64)), (5, .h (.i .i64)), (6, .h (.i .i64))], [], [(.sl (.sl (.i .i64))), (.i .i64), (.i .i64), (.i .i64)]⟩
def o_ref16_Great_1 : List (Exit × PS) := [((.exit 0), ⟨[(1, .h (.i .i64)), (5, .h (.i .i64))], [], [(.i .i64), (.i .i64)]⟩)]
def p_ref16_Great_1 : Pl := .z
noncomputable def l_ref16_Great_1 (N : Nat) : Nat → (List (List Int)) × Int × Int × Int → Option (Int × Int) := loopF (exC T (ct_ref16_Great N) N (codeAt [1, 1, 0, 1, 0, 0] (bodyOf Try.f42))) 30 i_ref16_Great_1 o_ref16_Great_1 p_ref16_Great_1
def p_ref16_Great : Pl := (.n .z (.n .z (.n (.n .z (.n (.loop i_ref16_Great_1 o_ref16_Great_1 p_ref16_Great_1) .z)) .z)))
def r_ref16_Great : PS := ⟨[(4, .h .b)], [], [.b]⟩
noncomputable def m_ref16_Great (N : Nat) : (List (List Int)) × Int → Option (Bool) := exF T ct_ref16_Great N (bodyOf Try.f42) 30 p_ref16_Great [.h (.sl (.sl (.i .i64))), .h (.i .i64)] [] [(.sl (.sl (.i .i64))), (.i .i64)] r_ref16_Great
noncomputable def c_ref16_Great (N : Nat) : Ctr := ⟨42, [.h (.sl (.sl (.i .i64))), .h (.i .i64)], [], [(.sl (.sl (.i .i64))), (.i .i64)], Tup r_ref16_Great.c, m_ref16_Great N, fun y _ k => k (resG T (mkPS 30 r_ref16_Great y) Try.f42.results.toList) (keepH' [] (mkPS 30 r_ref16_Great y).h), false, true⟩
theorem l_ref16_Great_1_z (N : Nat) (v : (List (List Int)) × Int × Int × Int) : l_ref16_Great_1 N 0 v = none := by kernel_rfl
theorem l_ref16_Great_1_s (N m : Nat) (sums : (List (List Int))) (most : Int) (n : Int) (i : Int) : l_ref16_Great_1 N (m + 1) (sums, most, n, i) = cond (decide (i < (((List.length sums) : Nat) : Int)))
   (cond (decide (n ≤ most))
     (obind (nthI sums i) fun z1 =>
      (l_ref16_Great_1 N m (sums, (most, ((IntKind.wrap .i64 (n + (((List.length z1) : Nat) : Int))), (IntKind.wrap .i64 (i + (1 : Int))))))))
     (some (most, n)))
   (some (most, n)) := by kernel_rfl
theorem m_ref16_Great_eq (N : Nat) (sums : (List (List Int))) (most : Int) : m_ref16_Great (N + 1) (sums, most) = obind (l_ref16_Great_1 N N (sums, (most, ((((List.length sums) : Nat) : Int), (0 : Int))))) fun z1 =>
  some (decide (z1.1 < z1.2)) := by kernel_rfl
theorem c_ref16_Great_ok (N : Nat) : (c_ref16_Great N).ok Try.prog := exF_ok (T := T) (CT := ct_ref16_Great) (N := N) (fun M => ⟨tOk, ctAll_nil, mixed⟩) Try.func42 (by kernel_rfl) (by kernel_rfl) p_ref16_Great [.h (.sl (.sl (.i .i64))), .h (.i .i64)] [] [(.sl (.sl (.i .i64))), (.i .i64)] r_ref16_Great false true [] (by kernel_rfl) (fun y => by kernel_rfl) (fun _ => ⟨rfl, rfl⟩) (fun y => by kernel_rfl) (m_ref16_Great N) (fun x => by kernel_rfl)
/-! archipelago/archipelagolaw16.great -/
noncomputable def ct_law16_great (N : Nat) : List Ctr := [c_ref14_Great N, c_ref16_Great N]
def p_law16_great : Pl := .z
def r_law16_great : PS := ⟨[(4, .h .b)], [], [.b]⟩
noncomputable def m_law16_great (N : Nat) : (List Int) × (List Int) × (List (List Int)) × (List (List Int)) → Option (Bool) := exF T ct_law16_great N (bodyOf Try.f13) 11 p_law16_great [.ag [.h (.sl (.i .i64)), .h (.sl (.i .i64)), .h (.sl (.sl (.i .i64)))], .h (.sl (.sl (.i .i64)))] [] [(.sl (.i .i64)), (.sl (.i .i64)), (.sl (.sl (.i .i64))), (.sl (.sl (.i .i64)))] r_law16_great
noncomputable def c_law16_great (N : Nat) : Ctr := ⟨13, [.ag [.h (.sl (.i .i64)), .h (.sl (.i .i64)), .h (.sl (.sl (.i .i64)))], .h (.sl (.sl (.i .i64)))], [], [(.sl (.i .i64)), (.sl (.i .i64)), (.sl (.sl (.i .i64))), (.sl (.sl (.i .i64)))], Tup r_law16_great.c, m_law16_great N, fun y _ k => k (resG T (mkPS 11 r_law16_great y) Try.f13.results.toList) (keepH' [] (mkPS 11 r_law16_great y).h), false, true⟩
theorem m_law16_great_eq (N : Nat) (t : (List Int)) (t2 : (List Int)) (t3 : (List (List Int))) (sums : (List (List Int))) : m_law16_great (N + 1) (t, t2, t3, sums) = obind (m_ref14_Great N (t, (t2, (t3, (200 : Int))))) fun z1 =>
  cond z1
   (some true)
   (obind (m_ref16_Great N (sums, (200 : Int))) fun z2 =>
    some z2) := by kernel_rfl
theorem c_law16_great_ok (N : Nat) : (c_law16_great N).ok Try.prog := exF_ok (T := T) (CT := ct_law16_great) (N := N) (fun M => ⟨tOk, (ctAll_cons (c_ref14_Great_ok M) (ctAll_cons (c_ref16_Great_ok M) ctAll_nil)), mixed⟩) Try.func13 (by kernel_rfl) (by kernel_rfl) p_law16_great [.ag [.h (.sl (.i .i64)), .h (.sl (.i .i64)), .h (.sl (.sl (.i .i64)))], .h (.sl (.sl (.i .i64)))] [] [(.sl (.i .i64)), (.sl (.i .i64)), (.sl (.sl (.i .i64))), (.sl (.sl (.i .i64)))] r_law16_great false true [] (by kernel_rfl) (fun y => by kernel_rfl) (fun _ => ⟨rfl, rfl⟩) (fun y => by kernel_rfl) (m_law16_great N) (fun x => by kernel_rfl)
/-! archipelago/archipelagoref14.Lists -/
noncomputable def ct_ref14_Lists (N : Nat) : List Ctr := [c_ref01_Ints N]
def i_ref14_Lists_1 : PS := ⟨[(0, .h (.sl (.sl (.i .i64)))), (1, .h (.sl (.sl (.i .i64)))), (5, .h (.i .i64))], [], [(.sl (.sl (.i .i64))), (.sl (.sl (.i .i64))), (.i .i64)]⟩
def o_ref14_Lists_1 : List (Exit × PS) := [((.exit 0), ⟨[], [], []⟩), (.ret, ⟨[(4, .h .b)], [], [.b]⟩)]
def p_ref14_Lists_1 : Pl := .z
noncomputable def l_ref14_Lists_1 (N : Nat) : Nat → (List (List Int)) × (List (List Int)) × Int → Option ((Unit) ⊕ (Bool)) := loopF (exC T (ct_ref14_Lists N) N (codeAt [1, 1, 0, 1, 0, 0] (bodyOf Try.f25))) 27 i_ref14_Lists_1 o_ref14_Lists_1 p_ref14_Lists_1
def p_ref14_Lists : Pl := (.n .z (.n .z (.n (.n .z (.n (.loop i_ref14_Lists_1 o_ref14_Lists_1 p_ref14_Lists_1) .z)) .z)))
def r_ref14_Lists : PS := ⟨[(4, .h .b)], [], [.b]⟩
noncomputable def m_ref14_Lists (N : Nat) : (List (List Int)) × (List (List Int)) → Option (Bool) := exF T ct_ref14_Lists N (bodyOf Try.f25) 27 p_ref14_Lists [.h (.sl (.sl (.i .i64))), .h (.sl (.sl (.i .i64)))] [] [(.sl (.sl (.i .i64))), (.sl (.sl (.i .i64)))] r_ref14_Lists
noncomputable def c_ref14_Lists (N : Nat) : Ctr := ⟨25, [.h (.sl (.sl (.i .i64))), .h (.sl (.sl (.i .i64)))], [], [(.sl (.sl (.i .i64))), (.sl (.sl (.i .i64)))], Tup r_ref14_Lists.c, m_ref14_Lists N, fun y _ k => k (resG T (mkPS 27 r_ref14_Lists y) Try.f25.results.toList) (keepH' [] (mkPS 27 r_ref14_Lists y).h), false, true⟩
theorem l_ref14_Lists_1_z (N : Nat) (v : (List (List Int)) × (List (List Int)) × Int) : l_ref14_Lists_1 N 0 v = none := by kernel_rfl
theorem l_ref14_Lists_1_s (N m : Nat) (a : (List (List Int))) (b : (List (List Int))) (i : Int) : l_ref14_Lists_1 N (m + 1) (a, b, i) = cond (decide (i < (((List.length a) : Nat) : Int)))
   (obind (nthI a i) fun z1 =>
    obind (nthI b i) fun z2 =>
    obind (m_ref01_Ints N (z1, z2)) fun z3 =>
    cond (!z3)
     (some (.inr false))
     ((l_ref14_Lists_1 N m (a, (b, (IntKind.wrap .i64 (i + (1 : Int))))))))
   (some (.inl ())) := by kernel_rfl
theorem m_ref14_Lists_eq (N : Nat) (a : (List (List Int))) (b : (List (List Int))) : m_ref14_Lists (N + 1) (a, b) = cond (!(decide ((((List.length a) : Nat) : Int) = (((List.length b) : Nat) : Int))))
   (some false)
   (obind (l_ref14_Lists_1 N N (a, (b, (0 : Int)))) fun z1 =>
    (match z1 with
    | .inl zy2 => some true
    | .inr zy3 => some zy3)) := by kernel_rfl
theorem c_ref14_Lists_ok (N : Nat) : (c_ref14_Lists N).ok Try.prog := exF_ok (T := T) (CT := ct_ref14_Lists) (N := N) (fun M => ⟨tOk, (ctAll_cons (c_ref01_Ints_ok M) ctAll_nil), mixed⟩) Try.func25 (by kernel_rfl) (by kernel_rfl) p_ref14_Lists [.h (.sl (.sl (.i .i64))), .h (.sl (.sl (.i .i64)))] [] [(.sl (.sl (.i .i64))), (.sl (.sl (.i .i64)))] r_ref14_Lists false true [] (by kernel_rfl) (fun y => by kernel_rfl) (fun _ => ⟨rfl, rfl⟩) (fun y => by kernel_rfl) (m_ref14_Lists N) (fun x => by kernel_rfl)
/-! archipelago/archipelagoref14.Same -/
noncomputable def ct_ref14_Same (N : Nat) : List Ctr := [c_ref01_Ints N, c_ref14_Lists N]
def p_ref14_Same : Pl := .z
def r_ref14_Same : PS := ⟨[(4, .h .b)], [], [.b]⟩
noncomputable def m_ref14_Same (N : Nat) : (List Int) × (List Int) × (List (List Int)) × (List Int) × (List Int) × (List (List Int)) → Option (Bool) := exF T ct_ref14_Same N (bodyOf Try.f61) 24 p_ref14_Same [.ag [.h (.sl (.i .i64)), .h (.sl (.i .i64)), .h (.sl (.sl (.i .i64)))], .ag [.h (.sl (.i .i64)), .h (.sl (.i .i64)), .h (.sl (.sl (.i .i64)))]] [] [(.sl (.i .i64)), (.sl (.i .i64)), (.sl (.sl (.i .i64))), (.sl (.i .i64)), (.sl (.i .i64)), (.sl (.sl (.i .i64)))] r_ref14_Same
noncomputable def c_ref14_Same (N : Nat) : Ctr := ⟨61, [.ag [.h (.sl (.i .i64)), .h (.sl (.i .i64)), .h (.sl (.sl (.i .i64)))], .ag [.h (.sl (.i .i64)), .h (.sl (.i .i64)), .h (.sl (.sl (.i .i64)))]], [], [(.sl (.i .i64)), (.sl (.i .i64)), (.sl (.sl (.i .i64))), (.sl (.i .i64)), (.sl (.i .i64)), (.sl (.sl (.i .i64)))], Tup r_ref14_Same.c, m_ref14_Same N, fun y _ k => k (resG T (mkPS 24 r_ref14_Same y) Try.f61.results.toList) (keepH' [] (mkPS 24 r_ref14_Same y).h), false, true⟩
theorem m_ref14_Same_eq (N : Nat) (a : (List Int)) (a2 : (List Int)) (a3 : (List (List Int))) (b : (List Int)) (b2 : (List Int)) (b3 : (List (List Int))) : m_ref14_Same (N + 1) (a, a2, a3, b, b2, b3) = obind (m_ref01_Ints N (a, b)) fun z1 =>
  cond z1
   (obind (m_ref01_Ints N (a2, b2)) fun z2 =>
    cond z2
     (obind (m_ref14_Lists N (a3, b3)) fun z3 =>
      some z3)
     (some false))
   (some false) := by kernel_rfl
theorem c_ref14_Same_ok (N : Nat) : (c_ref14_Same N).ok Try.prog := exF_ok (T := T) (CT := ct_ref14_Same) (N := N) (fun M => ⟨tOk, (ctAll_cons (c_ref01_Ints_ok M) (ctAll_cons (c_ref14_Lists_ok M) ctAll_nil)), mixed⟩) Try.func61 (by kernel_rfl) (by kernel_rfl) p_ref14_Same [.ag [.h (.sl (.i .i64)), .h (.sl (.i .i64)), .h (.sl (.sl (.i .i64)))], .ag [.h (.sl (.i .i64)), .h (.sl (.i .i64)), .h (.sl (.sl (.i .i64)))]] [] [(.sl (.i .i64)), (.sl (.i .i64)), (.sl (.sl (.i .i64))), (.sl (.i .i64)), (.sl (.i .i64)), (.sl (.sl (.i .i64)))] r_ref14_Same false true [] (by kernel_rfl) (fun y => by kernel_rfl) (fun _ => ⟨rfl, rfl⟩) (fun y => by kernel_rfl) (m_ref14_Same N) (fun x => by kernel_rfl)
/-! archipelago/archipelagoref14.Right -/
noncomputable def ct_ref14_Right (N : Nat) : List Ctr := [c_ref14_Build N, c_ref14_Same N]
def p_ref14_Right : Pl := .z
def r_ref14_Right : PS := ⟨[(2, .h .b)], [], [.b]⟩
noncomputable def m_ref14_Right (N : Nat) : (List Int) × (List Int) × (List (List Int)) → Option (Bool) := exF T ct_ref14_Right N (bodyOf Try.f51) 20 p_ref14_Right [.ag [.h (.sl (.i .i64)), .h (.sl (.i .i64)), .h (.sl (.sl (.i .i64)))]] [] [(.sl (.i .i64)), (.sl (.i .i64)), (.sl (.sl (.i .i64)))] r_ref14_Right
noncomputable def c_ref14_Right (N : Nat) : Ctr := ⟨51, [.ag [.h (.sl (.i .i64)), .h (.sl (.i .i64)), .h (.sl (.sl (.i .i64)))]], [], [(.sl (.i .i64)), (.sl (.i .i64)), (.sl (.sl (.i .i64)))], Tup r_ref14_Right.c, m_ref14_Right N, fun y _ k => k (resG T (mkPS 20 r_ref14_Right y) Try.f51.results.toList) (keepH' [] (mkPS 20 r_ref14_Right y).h), false, true⟩
theorem m_ref14_Right_eq (N : Nat) (t : (List Int)) (t2 : (List Int)) (t3 : (List (List Int))) : m_ref14_Right (N + 1) (t, t2, t3) = obind (m_ref14_Build N (t, t2)) fun z1 =>
  cond (decide (z1.1 = (0 : Int)))
   (obind (m_ref14_Same N (z1.2.1, (z1.2.2.1, (z1.2.2.2, (t, (t2, t3)))))) fun z2 =>
    some z2)
   (some false) := by kernel_rfl
theorem c_ref14_Right_ok (N : Nat) : (c_ref14_Right N).ok Try.prog := exF_ok (T := T) (CT := ct_ref14_Right) (N := N) (fun M => ⟨tOk, (ctAll_cons (c_ref14_Build_ok M) (ctAll_cons (c_ref14_Same_ok M) ctAll_nil)), mixed⟩) Try.func51 (by kernel_rfl) (by kernel_rfl) p_ref14_Right [.ag [.h (.sl (.i .i64)), .h (.sl (.i .i64)), .h (.sl (.sl (.i .i64)))]] [] [(.sl (.i .i64)), (.sl (.i .i64)), (.sl (.sl (.i .i64)))] r_ref14_Right false true [] (by kernel_rfl) (fun y => by kernel_rfl) (fun _ => ⟨rfl, rfl⟩) (fun y => by kernel_rfl) (m_ref14_Right N) (fun x => by kernel_rfl)
/-! archipelago/archipelagoref16.may -/
noncomputable def ct_ref16_may (N : Nat) : List Ctr := []
def p_ref16_may : Pl := .z
def r_ref16_may : PS := ⟨[(2, .h .b)], [], [.b]⟩
noncomputable def m_ref16_may (N : Nat) : Int → Option (Bool) := exF T ct_ref16_may N (bodyOf Try.f52) 9 p_ref16_may [.h (.i .i64)] [] [(.i .i64)] r_ref16_may
noncomputable def c_ref16_may (N : Nat) : Ctr := ⟨52, [.h (.i .i64)], [], [(.i .i64)], Tup r_ref16_may.c, m_ref16_may N, fun y _ k => k (resG T (mkPS 9 r_ref16_may y) Try.f52.results.toList) (keepH' [] (mkPS 9 r_ref16_may y).h), false, true⟩
theorem m_ref16_may_eq (N : Nat) (w : Int) : m_ref16_may (N + 1) (w) = cond (decide ((-(1073741824 : Int)) ≤ w))
   (some (decide (w ≤ (1073741824 : Int))))
   (some false) := by kernel_rfl
theorem c_ref16_may_ok (N : Nat) : (c_ref16_may N).ok Try.prog := exF_ok (T := T) (CT := ct_ref16_may) (N := N) (fun M => ⟨tOk, ctAll_nil, mixed⟩) Try.func52 (by kernel_rfl) (by kernel_rfl) p_ref16_may [.h (.i .i64)] [] [(.i .i64)] r_ref16_may false true [] (by kernel_rfl) (fun y => by kernel_rfl) (fun _ => ⟨rfl, rfl⟩) (fun y => by kernel_rfl) (m_ref16_may N) (fun x => by kernel_rfl)
/-! archipelago/archipelagoref16.Build -/
noncomputable def ct_ref16_Build_o (N : Nat) : List Ctr := [c_ref14_Right N, c_ref16_may N]
def i_ref16_Build_o_4 : PS := ⟨[(1, .k (.ow 4294967296)), (2, .k (.pt 900 0)), (6, .h (.i .i64)), (8, .k (.ow 902)), (9, .h (.i .i64)), (10, .k (.ow 901)), (11, .h (.i .i64)), (12, .h (.i .i64)), (13, .h (.i .i64))], [(4294967296, .arr 3 (.i .i64) true), (900, .box 25 [.h (.sl (.i .i64)), .h (.sl (.i .i64)), .h (.sl (.sl (.i .i64)))]), (902, .arr 22 (.sl (.i .i64)) true), (901, .arr 3 (.i .i64) true)], [(.i .i64), (.i .i64), (.i .i64), (.i .i64), (.i .i64), (.sl (.i .i64)), (.sl (.i .i64)), (.sl (.i .i64)), (.sl (.sl (.i .i64))), (.sl (.sl (.i .i64))), (.sl (.i .i64))]⟩
def o_ref16_Build_o_4 : List (Exit × PS) := [((.exit 6), ⟨[(1, .k (.ow 4294967296)), (2, .k (.pt 900 0)), (6, .h (.i .i64)), (8, .k (.ow 901)), (9, .h (.i .i64)), (10, .k (.ow 902)), (11, .h (.i .i64)), (12, .h (.i .i64))], [(4294967296, .arr 3 (.i .i64) true), (900, .box 25 [.h (.sl (.i .i64)), .h (.sl (.i .i64)), .h (.sl (.sl (.i .i64)))]), (901, .arr 22 (.sl (.i .i64)) true), (902, .arr 3 (.i .i64) true)], [(.i .i64), (.i .i64), (.i .i64), (.i .i64), (.sl (.i .i64)), (.sl (.i .i64)), (.sl (.i .i64)), (.sl (.sl (.i .i64))), (.sl (.sl (.i .i64))), (.sl (.i .i64))]⟩)]
def p_ref16_Build_o_4 : Pl := .z
noncomputable def l_ref16_Build_o_4 (N : Nat) : Nat → Int × Int × Int × Int × Int × (List Int) × (List Int) × (List Int) × (List (List Int)) × (List (List Int)) × (List Int) → Option (Int × Int × Int × Int × (List Int) × (List Int) × (List Int) × (List (List Int)) × (List (List Int)) × (List Int)) := loopF (exC T (ct_ref16_Build_o N) N (codeAt [1, 1, 1, 1, 1, 0, 1, 0, 0, 1, 0, 0, 1, 0, 1, 0, 0, 1, 0, 0, 1, 0, 1, 0, 0] (bodyOf Try.f22))) 89 i_ref16_Build_o_4 o_ref16_Build_o_4 p_ref16_Build_o_4
def i_ref16_Build_o_3 : PS := ⟨[(1, .k (.ow 4294967296)), (2, .k (.pt 900 0)), (6, .h (.i .i64)), (8, .k (.ow 902)), (9, .h (.i .i64)), (10, .k (.ow 901)), (11, .h (.i .i64))], [(4294967296, .arr 3 (.i .i64) true), (900, .box 25 [.h (.sl (.i .i64)), .h (.sl (.i .i64)), .h (.sl (.sl (.i .i64)))]), (902, .arr 22 (.sl (.i .i64)) true), (901, .arr 3 (.i .i64) true)], [(.i .i64), (.i .i64), (.i .i64), (.sl (.i .i64)), (.sl (.i .i64)), (.sl (.i .i64)), (.sl (.sl (.i .i64))), (.sl (.sl (.i .i64))), (.sl (.i .i64))]⟩
def o_ref16_Build_o_3 : List (Exit × PS) := [((.exit 4), ⟨[(1, .k (.ow 4294967296)), (2, .k (.pt 900 0)), (6, .h (.i .i64)), (8, .k (.ow 901)), (9, .h (.i .i64)), (10, .k (.ow 902))], [(4294967296, .arr 3 (.i .i64) true), (900, .box 25 [.h (.sl (.i .i64)), .h (.sl (.i .i64)), .h (.sl (.sl (.i .i64)))]), (901, .arr 22 (.sl (.i .i64)) true), (902, .arr 3 (.i .i64) true)], [(.i .i64), (.i .i64), (.sl (.i .i64)), (.sl (.i .i64)), (.sl (.i .i64)), (.sl (.sl (.i .i64))), (.sl (.sl (.i .i64))), (.sl (.i .i64))]⟩)]
def p_ref16_Build_o_3 : Pl := (.n .z (.n (.n (.n .z (.n (.n .z (.n (.loop i_ref16_Build_o_4 o_ref16_Build_o_4 p_ref16_Build_o_4) .z)) .z)) .z) .z))
noncomputable def l_ref16_Build_o_3 (N : Nat) : Nat → Int × Int × Int × (List Int) × (List Int) × (List Int) × (List (List Int)) × (List (List Int)) × (List Int) → Option (Int × Int × (List Int) × (List Int) × (List Int) × (List (List Int)) × (List (List Int)) × (List Int)) := loopF (exC T (ct_ref16_Build_o N) N (codeAt [1, 1, 1, 1, 1, 0, 1, 0, 0, 1, 0, 0, 1, 0, 1, 0, 0] (bodyOf Try.f22))) 89 i_ref16_Build_o_3 o_ref16_Build_o_3 p_ref16_Build_o_3
def i_ref16_Build_o_2 : PS := ⟨[(1, .k (.ow 4294967296)), (2, .k (.pt 900 0)), (6, .h (.i .i64)), (8, .k (.ow 901)), (9, .h (.i .i64))], [(4294967296, .arr 3 (.i .i64) true), (900, .box 25 [.h (.sl (.i .i64)), .h (.sl (.i .i64)), .h (.sl (.sl (.i .i64)))]), (901, .arr 22 (.sl (.i .i64)) true)], [(.i .i64), (.i .i64), (.sl (.i .i64)), (.sl (.i .i64)), (.sl (.i .i64)), (.sl (.sl (.i .i64))), (.sl (.sl (.i .i64)))]⟩
def o_ref16_Build_o_2 : List (Exit × PS) := [((.exit 2), ⟨[(8, .k (.ow 900))], [(900, .arr 22 (.sl (.i .i64)) true), (4294967296, .arr 3 (.i .i64) true)], [(.sl (.sl (.i .i64))), (.sl (.i .i64))]⟩)]
def p_ref16_Build_o_2 : Pl := (.n .z (.n (.n (.n .z (.n (.n .z (.n (.loop i_ref16_Build_o_3 o_ref16_Build_o_3 p_ref16_Build_o_3) .z)) .z)) .z) .z))
noncomputable def l_ref16_Build_o_2 (N : Nat) : Nat → Int × Int × (List Int) × (List Int) × (List Int) × (List (List Int)) × (List (List Int)) → Option ((List (List Int)) × (List Int)) := loopF (exC T (ct_ref16_Build_o N) N (codeAt [1, 1, 1, 1, 1, 0, 1, 0, 0] (bodyOf Try.f22))) 89 i_ref16_Build_o_2 o_ref16_Build_o_2 p_ref16_Build_o_2
def i_ref16_Build_o_1 : PS := ⟨[(1, .k (.ow 4294967296)), (2, .k (.pt 900 0)), (6, .h (.i .i64)), (7, .h (.i .i64))], [(4294967296, .arr 3 (.i .i64) true), (900, .box 25 [.h (.sl (.i .i64)), .h (.sl (.i .i64)), .h (.sl (.sl (.i .i64)))])], [(.i .i64), (.i .i64), (.sl (.i .i64)), (.sl (.i .i64)), (.sl (.i .i64)), (.sl (.sl (.i .i64)))]⟩
def o_ref16_Build_o_1 : List (Exit × PS) := [((.exit 0), ⟨[(1, .k (.ow 4294967296)), (2, .k (.pt 900 0)), (6, .h (.i .i64))], [(4294967296, .arr 3 (.i .i64) true), (900, .box 25 [.h (.sl (.i .i64)), .h (.sl (.i .i64)), .h (.sl (.sl (.i .i64)))])], [(.i .i64), (.sl (.i .i64)), (.sl (.i .i64)), (.sl (.i .i64)), (.sl (.sl (.i .i64)))]⟩), (.ret, ⟨[(4, .k .nil), (5, .h (.i .i64))], [(4294967296, .arr 3 (.i .i64) true)], [(.i .i64), (.sl (.i .i64))]⟩)]
def p_ref16_Build_o_1 : Pl := .z
noncomputable def l_ref16_Build_o_1 (N : Nat) : Nat → Int × Int × (List Int) × (List Int) × (List Int) × (List (List Int)) → Option ((Int × (List Int) × (List Int) × (List Int) × (List (List Int))) ⊕ (Int × (List Int))) := loopF (exC T (ct_ref16_Build_o N) N (codeAt [1, 1, 1, 0, 1, 0, 0] (bodyOf Try.f22))) 89 i_ref16_Build_o_1 o_ref16_Build_o_1 p_ref16_Build_o_1
def p_ref16_Build_o : Pl := (.n .z (.n .z (.n .z (.n (.n .z (.n (.loop i_ref16_Build_o_1 o_ref16_Build_o_1 p_ref16_Build_o_1) .z)) (.n .z (.n (.n .z (.n (.loop i_ref16_Build_o_2 o_ref16_Build_o_2 p_ref16_Build_o_2) .z)) .z))))))
def r_ref16_Build_o : PS := ⟨[(4, .k (.ow 900)), (5, .h (.i .i64))], [(900, .arr 22 (.sl (.i .i64)) true), (4294967296, .arr 3 (.i .i64) true)], [(.i .i64), (.sl (.sl (.i .i64))), (.sl (.i .i64))]⟩
noncomputable def m_ref16_Build_o (N : Nat) : (List Int) × (List Int) × (List (List Int)) × (List Int) → Option (Int × (List (List Int)) × (List Int)) := exF T ct_ref16_Build_o N (bodyOf Try.f22) 89 p_ref16_Build_o [.ag [.h (.sl (.i .i64)), .h (.sl (.i .i64)), .h (.sl (.sl (.i .i64)))], .k (.ow 4294967296)] [(4294967296, .arr 3 (.i .i64) true)] [(.sl (.i .i64)), (.sl (.i .i64)), (.sl (.sl (.i .i64))), (.sl (.i .i64))] r_ref16_Build_o
noncomputable def c_ref16_Build_o (N : Nat) : Ctr := ⟨22, [.ag [.h (.sl (.i .i64)), .h (.sl (.i .i64)), .h (.sl (.sl (.i .i64)))], .k (.ow 4294967296)], [(4294967296, .arr 3 (.i .i64) true)], [(.sl (.i .i64)), (.sl (.i .i64)), (.sl (.sl (.i .i64))), (.sl (.i .i64))], Tup r_ref16_Build_o.c, m_ref16_Build_o N, fun y _ k => k (resG T (mkPS 89 r_ref16_Build_o y) Try.f22.results.toList) (keepH' [900, 4294967296] (mkPS 89 r_ref16_Build_o y).h), true, false⟩
theorem l_ref16_Build_o_4_z (N : Nat) (v : Int × Int × Int × Int × Int × (List Int) × (List Int) × (List Int) × (List (List Int)) × (List (List Int)) × (List Int)) : l_ref16_Build_o_4 N 0 v = none := by kernel_rfl
theorem l_ref16_Build_o_4_s (N m : Nat) (n : Int) (i : Int) (h : Int) (sum : Int) (k : Int) (weights : (List Int)) (t : (List Int)) (t2 : (List Int)) (t3 : (List (List Int))) (out : (List (List Int))) (l : (List Int)) : l_ref16_Build_o_4 N (m + 1) (n, i, h, sum, k, weights, t, t2, t3, out, l) = obind (nthI t3 i) fun z1 =>
  obind (nthI z1 h) fun z2 =>
  cond (!(decide (k = z2)))
   (obind (nthI weights k) fun z3 =>
    obind (nthI weights k) fun z4 =>
    obind (remI (IntKind.wrap .i64 (k + (1 : Int))) n) fun z5 =>
    (l_ref16_Build_o_4 N m (n, (i, (h, ((IntKind.wrap .i64 (sum + z4)), (z5, (weights, (t, (t2, (t3, (out, l))))))))))))
   (some (n, (i, (h, (sum, (weights, (t, (t2, (t3, (out, l)))))))))) := by kernel_rfl
theorem l_ref16_Build_o_3_z (N : Nat) (v : Int × Int × Int × (List Int) × (List Int) × (List Int) × (List (List Int)) × (List (List Int)) × (List Int)) : l_ref16_Build_o_3 N 0 v = none := by kernel_rfl
theorem l_ref16_Build_o_3_s (N m : Nat) (n : Int) (i : Int) (h : Int) (weights : (List Int)) (t : (List Int)) (t2 : (List Int)) (t3 : (List (List Int))) (out : (List (List Int))) (l : (List Int)) : l_ref16_Build_o_3 N (m + 1) (n, i, h, weights, t, t2, t3, out, l) = obind (nthI t3 i) fun z1 =>
  cond (decide (h < (((List.length z1) : Nat) : Int)))
   (obind (nthI weights i) fun z2 =>
    obind (nthI weights i) fun z3 =>
    obind (remI (IntKind.wrap .i64 (i + (1 : Int))) n) fun z4 =>
    obind (l_ref16_Build_o_4 N N (n, (i, (h, (z3, (z4, (weights, (t, (t2, (t3, (out, l))))))))))) fun z5 =>
    obind (appI (8 : Nat) z5.2.2.2.2.2.2.2.2.2 [z5.2.2.2.1]) fun z6 =>
    (l_ref16_Build_o_3 N m (z5.1, (z5.2.1, ((IntKind.wrap .i64 (z5.2.2.1 + (1 : Int))), (z5.2.2.2.2.1, (z5.2.2.2.2.2.1, (z5.2.2.2.2.2.2.1, (z5.2.2.2.2.2.2.2.1, (z5.2.2.2.2.2.2.2.2.1, z6))))))))))
   (some (n, (i, (weights, (t, (t2, (t3, (out, l)))))))) := by kernel_rfl
theorem l_ref16_Build_o_2_z (N : Nat) (v : Int × Int × (List Int) × (List Int) × (List Int) × (List (List Int)) × (List (List Int))) : l_ref16_Build_o_2 N 0 v = none := by kernel_rfl
theorem l_ref16_Build_o_2_s (N m : Nat) (n : Int) (i : Int) (weights : (List Int)) (t : (List Int)) (t2 : (List Int)) (t3 : (List (List Int))) (out : (List (List Int))) : l_ref16_Build_o_2 N (m + 1) (n, i, weights, t, t2, t3, out) = cond (decide (i < n))
   (obind (l_ref16_Build_o_3 N N (n, (i, ((0 : Int), (weights, (t, (t2, (t3, (out, []))))))))) fun z1 =>
    obind (appI (24 : Nat) z1.2.2.2.2.2.2.1 [z1.2.2.2.2.2.2.2]) fun z2 =>
    (l_ref16_Build_o_2 N m (z1.1, ((IntKind.wrap .i64 (z1.2.1 + (1 : Int))), (z1.2.2.1, (z1.2.2.2.1, (z1.2.2.2.2.1, (z1.2.2.2.2.2.1, z2))))))))
   (some (out, weights)) := by kernel_rfl
theorem l_ref16_Build_o_1_z (N : Nat) (v : Int × Int × (List Int) × (List Int) × (List Int) × (List (List Int))) : l_ref16_Build_o_1 N 0 v = none := by kernel_rfl
theorem l_ref16_Build_o_1_s (N m : Nat) (n : Int) (i : Int) (weights : (List Int)) (t : (List Int)) (t2 : (List Int)) (t3 : (List (List Int))) : l_ref16_Build_o_1 N (m + 1) (n, i, weights, t, t2, t3) = cond (decide (i < n))
   (obind (nthI weights i) fun z1 =>
    obind (nthI weights i) fun z2 =>
    obind (m_ref16_may N z2) fun z3 =>
    cond (!z3)
     (some (.inr ((1 : Int), weights)))
     ((l_ref16_Build_o_1 N m (n, ((IntKind.wrap .i64 (i + (1 : Int))), (weights, (t, (t2, t3))))))))
   (some (.inl (n, (weights, (t, (t2, t3)))))) := by kernel_rfl
theorem m_ref16_Build_o_eq (N : Nat) (t : (List Int)) (t2 : (List Int)) (t3 : (List (List Int))) (weights : (List Int)) : m_ref16_Build_o (N + 1) (t, t2, t3, weights) = obind (m_ref14_Right N (t, (t2, t3))) fun z1 =>
  cond (!z1)
   (some ((1 : Int), ([], weights)))
   (cond (!(decide ((((List.length weights) : Nat) : Int) = (((List.length t) : Nat) : Int))))
     (some ((1 : Int), ([], weights)))
     (obind (l_ref16_Build_o_1 N N ((((List.length t) : Nat) : Int), ((0 : Int), (weights, (t, (t2, t3)))))) fun z2 =>
      (match z2 with
      | .inl zy3 => obind (l_ref16_Build_o_2 N N (zy3.1, ((0 : Int), (zy3.2.1, (zy3.2.2.1, (zy3.2.2.2.1, (zy3.2.2.2.2, []))))))) fun z4 =>
        some ((0 : Int), (z4.1, z4.2))
      | .inr zy5 => some (zy5.1, ([], zy5.2))))) := by kernel_rfl
theorem c_ref16_Build_o_ok (N : Nat) : (c_ref16_Build_o N).ok Try.prog := exF_ok (T := T) (CT := ct_ref16_Build_o) (N := N) (fun M => ⟨tOk, (ctAll_cons (c_ref14_Right_ok M) (ctAll_cons (c_ref16_may_ok M) ctAll_nil)), mixed⟩) Try.func22 (by kernel_rfl) (by kernel_rfl) p_ref16_Build_o [.ag [.h (.sl (.i .i64)), .h (.sl (.i .i64)), .h (.sl (.sl (.i .i64)))], .k (.ow 4294967296)] [(4294967296, .arr 3 (.i .i64) true)] [(.sl (.i .i64)), (.sl (.i .i64)), (.sl (.sl (.i .i64))), (.sl (.i .i64))] r_ref16_Build_o true false [900, 4294967296] (by kernel_rfl) (fun y => by kernel_rfl) (fun h => by cases h) (fun y => by kernel_rfl) (m_ref16_Build_o N) (fun x => by kernel_rfl)
/-! archipelago/archipelagoref16.Weights -/
noncomputable def ct_ref16_Weights (N : Nat) : List Ctr := [c_ref16_Build_o N, c_ref14_Lists N]
def i_ref16_Weights_1 : PS := ⟨[(1, .h (.sl (.sl (.i .i64)))), (2, .k (.pt 900 0)), (5, .k (.ow 901)), (6, .h (.i .i64))], [(900, .box 25 [.h (.sl (.i .i64)), .h (.sl (.i .i64)), .h (.sl (.sl (.i .i64)))]), (901, .arr 3 (.i .i64) true)], [(.sl (.sl (.i .i64))), (.i .i64), (.sl (.i .i64)), (.sl (.i .i64)), (.sl (.sl (.i .i64))), (.sl (.i .i64))]⟩
def o_ref16_Weights_1 : List (Exit × PS) := [((.exit 0), ⟨[(1, .h (.sl (.sl (.i .i64)))), (2, .k (.pt 900 0)), (5, .k (.ow 901))], [(900, .box 25 [.h (.sl (.i .i64)), .h (.sl (.i .i64)), .h (.sl (.sl (.i .i64)))]), (901, .arr 3 (.i .i64) true)], [(.sl (.sl (.i .i64))), (.sl (.i .i64)), (.sl (.i .i64)), (.sl (.sl (.i .i64))), (.sl (.i .i64))]⟩), (.ret, ⟨[(4, .k .nil)], [], []⟩)]
def p_ref16_Weights_1 : Pl := .z
noncomputable def l_ref16_Weights_1 (N : Nat) : Nat → (List (List Int)) × Int × (List Int) × (List Int) × (List (List Int)) × (List Int) → Option (((List (List Int)) × (List Int) × (List Int) × (List (List Int)) × (List Int)) ⊕ (Unit)) := loopF (exC T (ct_ref16_Weights N) N (codeAt [1, 1, 0, 1, 0, 0] (bodyOf Try.f20))) 45 i_ref16_Weights_1 o_ref16_Weights_1 p_ref16_Weights_1
def p_ref16_Weights : Pl := (.n .z (.n .z (.n (.n .z (.n (.loop i_ref16_Weights_1 o_ref16_Weights_1 p_ref16_Weights_1) .z)) .z)))
def r_ref16_Weights : PS := ⟨[(4, .k (.ow 900))], [(900, .arr 3 (.i .i64) true)], [(.sl (.i .i64))]⟩
noncomputable def m_ref16_Weights (N : Nat) : (List Int) × (List Int) × (List (List Int)) × (List (List Int)) → Option ((List Int)) := exF T ct_ref16_Weights N (bodyOf Try.f20) 45 p_ref16_Weights [.ag [.h (.sl (.i .i64)), .h (.sl (.i .i64)), .h (.sl (.sl (.i .i64)))], .h (.sl (.sl (.i .i64)))] [] [(.sl (.i .i64)), (.sl (.i .i64)), (.sl (.sl (.i .i64))), (.sl (.sl (.i .i64)))] r_ref16_Weights
noncomputable def c_ref16_Weights (N : Nat) : Ctr := ⟨20, [.ag [.h (.sl (.i .i64)), .h (.sl (.i .i64)), .h (.sl (.sl (.i .i64)))], .h (.sl (.sl (.i .i64)))], [], [(.sl (.i .i64)), (.sl (.i .i64)), (.sl (.sl (.i .i64))), (.sl (.sl (.i .i64)))], Tup r_ref16_Weights.c, m_ref16_Weights N, fun y _ k => k (resG T (mkPS 45 r_ref16_Weights y) Try.f20.results.toList) (keepH' [900] (mkPS 45 r_ref16_Weights y).h), true, true⟩
theorem l_ref16_Weights_1_z (N : Nat) (v : (List (List Int)) × Int × (List Int) × (List Int) × (List (List Int)) × (List Int)) : l_ref16_Weights_1 N 0 v = none := by kernel_rfl
theorem l_ref16_Weights_1_s (N m : Nat) (sums : (List (List Int))) (i : Int) (t : (List Int)) (t2 : (List Int)) (t3 : (List (List Int))) (w : (List Int)) : l_ref16_Weights_1 N (m + 1) (sums, i, t, t2, t3, w) = cond (decide (i < (((List.length sums) : Nat) : Int)))
   (obind (nthI sums i) fun z1 =>
    cond (decide ((((List.length z1) : Nat) : Int) = (0 : Int)))
     (some (.inr ()))
     (obind (nthI sums i) fun z2 =>
      obind (nthI z2 (0 : Int)) fun z3 =>
      obind (appI (8 : Nat) w [z3]) fun z4 =>
      (l_ref16_Weights_1 N m (sums, ((IntKind.wrap .i64 (i + (1 : Int))), (t, (t2, (t3, z4))))))))
   (some (.inl (sums, (t, (t2, (t3, w)))))) := by kernel_rfl
theorem m_ref16_Weights_eq (N : Nat) (t : (List Int)) (t2 : (List Int)) (t3 : (List (List Int))) (sums : (List (List Int))) : m_ref16_Weights (N + 1) (t, t2, t3, sums) = obind (l_ref16_Weights_1 N N (sums, ((0 : Int), (t, (t2, (t3, [])))))) fun z1 =>
  (match z1 with
  | .inl zy2 => obind (m_ref16_Build_o N (zy2.2.1, (zy2.2.2.1, (zy2.2.2.2.1, zy2.2.2.2.2)))) fun z3 =>
    cond (!(decide (z3.1 = (0 : Int))))
     (some [])
     (obind (m_ref14_Lists N (z3.2.1, zy2.1)) fun z4 =>
      cond (!z4)
       (some [])
       (some z3.2.2))
  | .inr zy5 => some []) := by kernel_rfl
theorem c_ref16_Weights_ok (N : Nat) : (c_ref16_Weights N).ok Try.prog := exF_ok (T := T) (CT := ct_ref16_Weights) (N := N) (fun M => ⟨tOk, (ctAll_cons (c_ref16_Build_o_ok M) (ctAll_cons (c_ref14_Lists_ok M) ctAll_nil)), mixed⟩) Try.func20 (by kernel_rfl) (by kernel_rfl) p_ref16_Weights [.ag [.h (.sl (.i .i64)), .h (.sl (.i .i64)), .h (.sl (.sl (.i .i64)))], .h (.sl (.sl (.i .i64)))] [] [(.sl (.i .i64)), (.sl (.i .i64)), (.sl (.sl (.i .i64))), (.sl (.sl (.i .i64)))] r_ref16_Weights true true [900] (by kernel_rfl) (fun y => by kernel_rfl) (fun h => by cases h) (fun y => by kernel_rfl) (m_ref16_Weights N) (fun x => by kernel_rfl)
/-! archipelago/archipelagoref16.Total -/
noncomputable def ct_ref16_Total (N : Nat) : List Ctr := [c_ref16_Weights N]
def i_ref16_Total_1 : PS := ⟨[(6, .k (.ow 900)), (7, .h (.i .i64)), (8, .h (.i .i64))], [(900, .arr 3 (.i .i64) true)], [(.i .i64), (.i .i64), (.sl (.i .i64))]⟩
def o_ref16_Total_1 : List (Exit × PS) := [((.exit 0), ⟨[(7, .h (.i .i64))], [], [(.i .i64)]⟩)]
def p_ref16_Total_1 : Pl := .z
noncomputable def l_ref16_Total_1 (N : Nat) : Nat → Int × Int × (List Int) → Option (Int) := loopF (exC T (ct_ref16_Total N) N (codeAt [1, 1, 1, 1, 0, 1, 0, 0] (bodyOf Try.f15))) 28 i_ref16_Total_1 o_ref16_Total_1 p_ref16_Total_1
def p_ref16_Total : Pl := (.n .z (.n .z (.n .z (.n .z (.n (.n .z (.n (.loop i_ref16_Total_1 o_ref16_Total_1 p_ref16_Total_1) .z)) .z)))))
def r_ref16_Total : PS := ⟨[(4, .h (.i .i64)), (5, .h (.i .i64))], [], [(.i .i64), (.i .i64)]⟩
noncomputable def m_ref16_Total (N : Nat) : (List Int) × (List Int) × (List (List Int)) × (List (List Int)) → Option (Int × Int) := exF T ct_ref16_Total N (bodyOf Try.f15) 28 p_ref16_Total [.ag [.h (.sl (.i .i64)), .h (.sl (.i .i64)), .h (.sl (.sl (.i .i64)))], .h (.sl (.sl (.i .i64)))] [] [(.sl (.i .i64)), (.sl (.i .i64)), (.sl (.sl (.i .i64))), (.sl (.sl (.i .i64)))] r_ref16_Total
noncomputable def c_ref16_Total (N : Nat) : Ctr := ⟨15, [.ag [.h (.sl (.i .i64)), .h (.sl (.i .i64)), .h (.sl (.sl (.i .i64)))], .h (.sl (.sl (.i .i64)))], [], [(.sl (.i .i64)), (.sl (.i .i64)), (.sl (.sl (.i .i64))), (.sl (.sl (.i .i64)))], Tup r_ref16_Total.c, m_ref16_Total N, fun y _ k => k (resG T (mkPS 28 r_ref16_Total y) Try.f15.results.toList) (keepH' [] (mkPS 28 r_ref16_Total y).h), false, true⟩
theorem l_ref16_Total_1_z (N : Nat) (v : Int × Int × (List Int)) : l_ref16_Total_1 N 0 v = none := by kernel_rfl
theorem l_ref16_Total_1_s (N m : Nat) (sum : Int) (i : Int) (w : (List Int)) : l_ref16_Total_1 N (m + 1) (sum, i, w) = cond (decide (i < (((List.length w) : Nat) : Int)))
   (obind (nthI w i) fun z1 =>
    obind (nthI w i) fun z2 =>
    (l_ref16_Total_1 N m ((IntKind.wrap .i64 (sum + z2)), ((IntKind.wrap .i64 (i + (1 : Int))), w))))
   (some sum) := by kernel_rfl
theorem m_ref16_Total_eq (N : Nat) (t : (List Int)) (t2 : (List Int)) (t3 : (List (List Int))) (sums : (List (List Int))) : m_ref16_Total (N + 1) (t, t2, t3, sums) = obind (m_ref16_Weights N (t, (t2, (t3, sums)))) fun z1 =>
  cond (decide ((((List.length z1) : Nat) : Int) = (0 : Int)))
   (some ((0 : Int), (1 : Int)))
   (obind (l_ref16_Total_1 N N ((0 : Int), ((0 : Int), z1))) fun z2 =>
    some (z2, (0 : Int))) := by kernel_rfl
theorem c_ref16_Total_ok (N : Nat) : (c_ref16_Total N).ok Try.prog := exF_ok (T := T) (CT := ct_ref16_Total) (N := N) (fun M => ⟨tOk, (ctAll_cons (c_ref16_Weights_ok M) ctAll_nil), mixed⟩) Try.func15 (by kernel_rfl) (by kernel_rfl) p_ref16_Total [.ag [.h (.sl (.i .i64)), .h (.sl (.i .i64)), .h (.sl (.sl (.i .i64)))], .h (.sl (.sl (.i .i64)))] [] [(.sl (.i .i64)), (.sl (.i .i64)), (.sl (.sl (.i .i64))), (.sl (.sl (.i .i64)))] r_ref16_Total false true [] (by kernel_rfl) (fun y => by kernel_rfl) (fun _ => ⟨rfl, rfl⟩) (fun y => by kernel_rfl) (m_ref16_Total N) (fun x => by kernel_rfl)
/-! archipelago/archipelagoref16.far -/
noncomputable def ct_ref16_far (N : Nat) : List Ctr := []
def p_ref16_far : Pl := .z
def r_ref16_far : PS := ⟨[(6, .h (.i .i64))], [], [(.i .i64)]⟩
noncomputable def m_ref16_far (N : Nat) : Int × Int × Int → Option (Int) := exF T ct_ref16_far N (bodyOf Try.f45) 14 p_ref16_far [.h (.i .i64), .h (.i .i64), .h (.i .i64)] [] [(.i .i64), (.i .i64), (.i .i64)] r_ref16_far
noncomputable def c_ref16_far (N : Nat) : Ctr := ⟨45, [.h (.i .i64), .h (.i .i64), .h (.i .i64)], [], [(.i .i64), (.i .i64), (.i .i64)], Tup r_ref16_far.c, m_ref16_far N, fun y _ k => k (resG T (mkPS 14 r_ref16_far y) Try.f45.results.toList) (keepH' [] (mkPS 14 r_ref16_far y).h), false, true⟩
theorem m_ref16_far_eq (N : Nat) (n : Int) (v1 : Int) (to : Int) : m_ref16_far (N + 1) (n, v1, to) = obind (remI (IntKind.wrap .i64 ((IntKind.wrap .i64 (to - v1)) + n)) n) fun z1 =>
  some z1 := by kernel_rfl
theorem c_ref16_far_ok (N : Nat) : (c_ref16_far N).ok Try.prog := exF_ok (T := T) (CT := ct_ref16_far) (N := N) (fun M => ⟨tOk, ctAll_nil, mixed⟩) Try.func45 (by kernel_rfl) (by kernel_rfl) p_ref16_far [.h (.i .i64), .h (.i .i64), .h (.i .i64)] [] [(.i .i64), (.i .i64), (.i .i64)] r_ref16_far false true [] (by kernel_rfl) (fun y => by kernel_rfl) (fun _ => ⟨rfl, rfl⟩) (fun y => by kernel_rfl) (m_ref16_far N) (fun x => by kernel_rfl)
/-! archipelago/archipelagoref16.Between -/
noncomputable def ct_ref16_Between (N : Nat) : List Ctr := [c_ref16_Weights N, c_ref16_far N]
def i_ref16_Between_3 : PS := ⟨[(3, .h (.i .i64)), (4, .k (.pt 900 0)), (12, .h (.i .i64)), (13, .h (.i .i64)), (15, .h (.i .i64)), (16, .h (.i .i64)), (17, .h (.i .i64))], [(900, .box 25 [.h (.sl (.i .i64)), .h (.sl (.i .i64)), .h (.sl (.sl (.i .i64)))])], [(.i .i64), (.i .i64), (.i .i64), (.i .i64), (.i .i64), (.i .i64), (.sl (.i .i64)), (.sl (.i .i64)), (.sl (.sl (.i .i64)))]⟩
def o_ref16_Between_3 : List (Exit × PS) := [((.exit 4), ⟨[(3, .h (.i .i64)), (4, .k (.pt 900 0)), (12, .h (.i .i64)), (13, .h (.i .i64)), (15, .h (.i .i64)), (16, .h (.i .i64)), (17, .h (.i .i64)), (80, .h (.i .i64)), (81, .h (.i .i64)), (82, .k (.pt 900 2)), (83, .h (.sl (.sl (.i .i64)))), (84, .h (.i .i64)), (86, .h (.sl (.i .i64))), (87, .h (.i .i64)), (89, .h (.i .i64)), (90, .h (.i .i64)), (91, .h (.i .i64)), (92, .h (.i .i64)), (93, .h (.i .i64)), (94, .h (.i .i64)), (95, .h .b)], [(900, .box 25 [.h (.sl (.i .i64)), .h (.sl (.i .i64)), .h (.sl (.sl (.i .i64)))])], [(.i .i64), (.i .i64), (.i .i64), (.i .i64), (.i .i64), (.i .i64), (.i .i64), (.i .i64), (.sl (.sl (.i .i64))), (.i .i64), (.sl (.i .i64)), (.i .i64), (.i .i64), (.i .i64), (.i .i64), (.i .i64), (.i .i64), (.i .i64), .b, (.sl (.i .i64)), (.sl (.i .i64)), (.sl (.sl (.i .i64)))]⟩)]
def p_ref16_Between_3 : Pl := .z
noncomputable def l_ref16_Between_3 (N : Nat) : Nat → Int × Int × Int × Int × Int × Int × (List Int) × (List Int) × (List (List Int)) → Option (Int × Int × Int × Int × Int × Int × Int × Int × (List (List Int)) × Int × (List Int) × Int × Int × Int × Int × Int × Int × Int × Bool × (List Int) × (List Int) × (List (List Int))) := loopF (exC T (ct_ref16_Between N) N (codeAt [1, 1, 1, 1, 1, 1, 1, 1, 0, 1, 0, 0, 1, 0, 0, 1, 0, 0, 0] (bodyOf Try.f17))) 109 i_ref16_Between_3 o_ref16_Between_3 p_ref16_Between_3
def i_ref16_Between_2 : PS := ⟨[(3, .h (.i .i64)), (4, .k (.pt 900 0)), (12, .h (.i .i64)), (13, .h (.i .i64)), (15, .h (.i .i64)), (16, .h (.i .i64))], [(900, .box 25 [.h (.sl (.i .i64)), .h (.sl (.i .i64)), .h (.sl (.sl (.i .i64)))])], [(.i .i64), (.i .i64), (.i .i64), (.i .i64), (.i .i64), (.sl (.i .i64)), (.sl (.i .i64)), (.sl (.sl (.i .i64)))]⟩
def o_ref16_Between_2 : List (Exit × PS) := [((.exit 2), ⟨[(13, .h (.i .i64)), (15, .h (.i .i64))], [], [(.i .i64), (.i .i64)]⟩)]
def p_ref16_Between_2 : Pl := (.n .z (.n (.n (.n .z (.n (.n (.loop i_ref16_Between_3 o_ref16_Between_3 p_ref16_Between_3) .z) .z)) .z) .z))
noncomputable def l_ref16_Between_2 (N : Nat) : Nat → Int × Int × Int × Int × Int × (List Int) × (List Int) × (List (List Int)) → Option (Int × Int) := loopF (exC T (ct_ref16_Between N) N (codeAt [1, 1, 1, 1, 1, 1, 1, 1, 0, 1, 0, 0] (bodyOf Try.f17))) 109 i_ref16_Between_2 o_ref16_Between_2 p_ref16_Between_2
def i_ref16_Between_1 : PS := ⟨[(2, .h (.i .i64)), (3, .h (.i .i64)), (4, .k (.pt 900 0)), (11, .k (.ow 901)), (12, .h (.i .i64)), (13, .h (.i .i64)), (14, .h (.i .i64))], [(900, .box 25 [.h (.sl (.i .i64)), .h (.sl (.i .i64)), .h (.sl (.sl (.i .i64)))]), (901, .arr 3 (.i .i64) true)], [(.i .i64), (.i .i64), (.i .i64), (.i .i64), (.i .i64), (.sl (.i .i64)), (.sl (.i .i64)), (.sl (.sl (.i .i64))), (.sl (.i .i64))]⟩
def o_ref16_Between_1 : List (Exit × PS) := [((.exit 0), ⟨[(2, .h (.i .i64)), (3, .h (.i .i64)), (4, .k (.pt 900 0)), (12, .h (.i .i64)), (13, .h (.i .i64))], [(900, .box 25 [.h (.sl (.i .i64)), .h (.sl (.i .i64)), .h (.sl (.sl (.i .i64)))])], [(.i .i64), (.i .i64), (.i .i64), (.i .i64), (.sl (.i .i64)), (.sl (.i .i64)), (.sl (.sl (.i .i64)))]⟩)]
def p_ref16_Between_1 : Pl := .z
noncomputable def l_ref16_Between_1 (N : Nat) : Nat → Int × Int × Int × Int × Int × (List Int) × (List Int) × (List (List Int)) × (List Int) → Option (Int × Int × Int × Int × (List Int) × (List Int) × (List (List Int))) := loopF (exC T (ct_ref16_Between N) N (codeAt [1, 1, 1, 1, 1, 1, 0, 1, 0, 0] (bodyOf Try.f17))) 109 i_ref16_Between_1 o_ref16_Between_1 p_ref16_Between_1
def p_ref16_Between : Pl := (.n .z (.n .z (.n .z (.n .z (.n .z (.n .z (.n (.n .z (.n (.loop i_ref16_Between_1 o_ref16_Between_1 p_ref16_Between_1) .z)) (.n .z (.n (.n .z (.n (.loop i_ref16_Between_2 o_ref16_Between_2 p_ref16_Between_2) .z)) .z)))))))))
def r_ref16_Between : PS := ⟨[(8, .h (.i .i64)), (9, .h (.i .i64)), (10, .h (.i .i64))], [], [(.i .i64), (.i .i64), (.i .i64)]⟩
noncomputable def m_ref16_Between (N : Nat) : (List Int) × (List Int) × (List (List Int)) × (List (List Int)) × Int × Int → Option (Int × Int × Int) := exF T ct_ref16_Between N (bodyOf Try.f17) 109 p_ref16_Between [.ag [.h (.sl (.i .i64)), .h (.sl (.i .i64)), .h (.sl (.sl (.i .i64)))], .h (.sl (.sl (.i .i64))), .h (.i .i64), .h (.i .i64)] [] [(.sl (.i .i64)), (.sl (.i .i64)), (.sl (.sl (.i .i64))), (.sl (.sl (.i .i64))), (.i .i64), (.i .i64)] r_ref16_Between
noncomputable def c_ref16_Between (N : Nat) : Ctr := ⟨17, [.ag [.h (.sl (.i .i64)), .h (.sl (.i .i64)), .h (.sl (.sl (.i .i64)))], .h (.sl (.sl (.i .i64))), .h (.i .i64), .h (.i .i64)], [], [(.sl (.i .i64)), (.sl (.i .i64)), (.sl (.sl (.i .i64))), (.sl (.sl (.i .i64))), (.i .i64), (.i .i64)], Tup r_ref16_Between.c, m_ref16_Between N, fun y _ k => k (resG T (mkPS 109 r_ref16_Between y) Try.f17.results.toList) (keepH' [] (mkPS 109 r_ref16_Between y).h), false, true⟩
theorem l_ref16_Between_3_z (N : Nat) (v : Int × Int × Int × Int × Int × Int × (List Int) × (List Int) × (List (List Int))) : l_ref16_Between_3 N 0 v = none := by kernel_rfl
theorem l_ref16_Between_3_s (N m : Nat) (to : Int) (n : Int) (sum : Int) (looks : Int) (v16 : Int) (h : Int) (t : (List Int)) (t2 : (List Int)) (t3 : (List (List Int))) : l_ref16_Between_3 N (m + 1) (to, n, sum, looks, v16, h, t, t2, t3) = obind (nthI t3 v16) fun z1 =>
  obind (nthI z1 h) fun z2 =>
  obind (m_ref16_far N (n, (v16, z2))) fun z3 =>
  cond (decide (z3 = (0 : Int)))
   ((l_ref16_Between_3 N m (to, (n, (sum, (looks, (v16, ((IntKind.wrap .i64 (h - (1 : Int))), (t, (t2, t3))))))))))
   (obind (nthI t3 v16) fun z4 =>
    obind (nthI z4 h) fun z5 =>
    obind (m_ref16_far N (n, (v16, z5))) fun z6 =>
    obind (m_ref16_far N (n, (v16, to))) fun z7 =>
    cond (decide (z7 < z6))
     ((l_ref16_Between_3 N m (to, (n, (sum, (looks, (v16, ((IntKind.wrap .i64 (h - (1 : Int))), (t, (t2, t3))))))))))
     (some (to, (n, (sum, (looks, (v16, (h, (n, (v16, (t3, (v16, (z4, (h, (z5, (z6, (n, (v16, (to, (z7, ((decide (z7 < z6)), (t, (t2, t3))))))))))))))))))))))) := by kernel_rfl
theorem l_ref16_Between_2_z (N : Nat) (v : Int × Int × Int × Int × Int × (List Int) × (List Int) × (List (List Int))) : l_ref16_Between_2 N 0 v = none := by kernel_rfl
theorem l_ref16_Between_2_s (N m : Nat) (to : Int) (n : Int) (sum : Int) (looks : Int) (v16 : Int) (t : (List Int)) (t2 : (List Int)) (t3 : (List (List Int))) : l_ref16_Between_2 N (m + 1) (to, n, sum, looks, v16, t, t2, t3) = cond (!(decide (v16 = to)))
   (obind (nthI t2 v16) fun z1 =>
    obind (l_ref16_Between_3 N N (to, (n, (sum, (looks, (v16, ((IntKind.wrap .i64 (z1 - (1 : Int))), (t, (t2, t3))))))))) fun z2 =>
    obind (nthI z2.2.2.2.2.2.2.2.2.2.2.2.2.2.2.2.2.2.2.2.2.2 z2.2.2.2.2.1) fun z3 =>
    obind (nthI z3 z2.2.2.2.2.2.1) fun z4 =>
    (l_ref16_Between_2 N m (z2.1, (z2.2.1, (z2.2.2.1, ((IntKind.wrap .i64 (z2.2.2.2.1 + (1 : Int))), (z4, (z2.2.2.2.2.2.2.2.2.2.2.2.2.2.2.2.2.2.2.2.1, (z2.2.2.2.2.2.2.2.2.2.2.2.2.2.2.2.2.2.2.2.2.1, z2.2.2.2.2.2.2.2.2.2.2.2.2.2.2.2.2.2.2.2.2.2)))))))))
   (some (sum, looks)) := by kernel_rfl
theorem l_ref16_Between_1_z (N : Nat) (v : Int × Int × Int × Int × Int × (List Int) × (List Int) × (List (List Int)) × (List Int)) : l_ref16_Between_1 N 0 v = none := by kernel_rfl
theorem l_ref16_Between_1_s (N m : Nat) (v2 : Int) (to : Int) (n : Int) (sum : Int) (k : Int) (t : (List Int)) (t2 : (List Int)) (t3 : (List (List Int))) (w : (List Int)) : l_ref16_Between_1 N (m + 1) (v2, to, n, sum, k, t, t2, t3, w) = cond (!(decide (k = to)))
   (obind (nthI w k) fun z1 =>
    obind (nthI w k) fun z2 =>
    obind (remI (IntKind.wrap .i64 (k + (1 : Int))) n) fun z3 =>
    (l_ref16_Between_1 N m (v2, (to, (n, ((IntKind.wrap .i64 (sum + z2)), (z3, (t, (t2, (t3, w))))))))))
   (some (v2, (to, (n, (sum, (t, (t2, t3))))))) := by kernel_rfl
theorem m_ref16_Between_eq (N : Nat) (t : (List Int)) (t2 : (List Int)) (t3 : (List (List Int))) (sums : (List (List Int))) (v2 : Int) (to : Int) : m_ref16_Between (N + 1) (t, t2, t3, sums, v2, to) = obind (m_ref16_Weights N (t, (t2, (t3, sums)))) fun z1 =>
  cond (decide ((((List.length z1) : Nat) : Int) = (0 : Int)))
   (some ((0 : Int), ((0 : Int), (1 : Int))))
   (cond (decide (v2 < (0 : Int)))
     (some ((0 : Int), ((0 : Int), (6 : Int))))
     (cond (decide ((((List.length z1) : Nat) : Int) ≤ v2))
       (some ((0 : Int), ((0 : Int), (6 : Int))))
       (cond (decide (to < (0 : Int)))
         (some ((0 : Int), ((0 : Int), (6 : Int))))
         (cond (decide ((((List.length z1) : Nat) : Int) ≤ to))
           (some ((0 : Int), ((0 : Int), (6 : Int))))
           (obind (l_ref16_Between_1 N N (v2, (to, ((((List.length z1) : Nat) : Int), ((0 : Int), (v2, (t, (t2, (t3, z1))))))))) fun z2 =>
            obind (l_ref16_Between_2 N N (z2.2.1, (z2.2.2.1, (z2.2.2.2.1, ((0 : Int), (z2.1, (z2.2.2.2.2.1, (z2.2.2.2.2.2.1, z2.2.2.2.2.2.2)))))))) fun z3 =>
            some (z3.1, (z3.2, (0 : Int)))))))) := by kernel_rfl
theorem c_ref16_Between_ok (N : Nat) : (c_ref16_Between N).ok Try.prog := exF_ok (T := T) (CT := ct_ref16_Between) (N := N) (fun M => ⟨tOk, (ctAll_cons (c_ref16_Weights_ok M) (ctAll_cons (c_ref16_far_ok M) ctAll_nil)), mixed⟩) Try.func17 (by kernel_rfl) (by kernel_rfl) p_ref16_Between [.ag [.h (.sl (.i .i64)), .h (.sl (.i .i64)), .h (.sl (.sl (.i .i64)))], .h (.sl (.sl (.i .i64))), .h (.i .i64), .h (.i .i64)] [] [(.sl (.i .i64)), (.sl (.i .i64)), (.sl (.sl (.i .i64))), (.sl (.sl (.i .i64))), (.i .i64), (.i .i64)] r_ref16_Between false true [] (by kernel_rfl) (fun y => by kernel_rfl) (fun _ => ⟨rfl, rfl⟩) (fun y => by kernel_rfl) (m_ref16_Between N) (fun x => by kernel_rfl)
/-! archipelago/archipelagolaw16.SumAnswers -/
noncomputable def ct_law16_SumAnswers (N : Nat) : List Ctr := [c_law16_alive N, c_law16_great N, c_sum_Total N, c_ref16_Total N, c_sum_Between N, c_ref16_Between N, c_sum_Weights N, c_ref16_Weights N, c_ref01_Ints N]
def p_law16_SumAnswers : Pl := .z
def r_law16_SumAnswers : PS := ⟨[(6, .h .b)], [], [.b]⟩
noncomputable def m_law16_SumAnswers (N : Nat) : (List Int) × (List Int) × (List (List Int)) × (List (List Int)) × Int × Int → Option (Bool) := exF T ct_law16_SumAnswers N (bodyOf Try.f3) 88 p_law16_SumAnswers [.ag [.h (.sl (.i .i64)), .h (.sl (.i .i64)), .h (.sl (.sl (.i .i64)))], .h (.sl (.sl (.i .i64))), .ag [.h (.i .i64), .h (.i .i64)]] [] [(.sl (.i .i64)), (.sl (.i .i64)), (.sl (.sl (.i .i64))), (.sl (.sl (.i .i64))), (.i .i64), (.i .i64)] r_law16_SumAnswers
noncomputable def c_law16_SumAnswers (N : Nat) : Ctr := ⟨3, [.ag [.h (.sl (.i .i64)), .h (.sl (.i .i64)), .h (.sl (.sl (.i .i64)))], .h (.sl (.sl (.i .i64))), .ag [.h (.i .i64), .h (.i .i64)]], [], [(.sl (.i .i64)), (.sl (.i .i64)), (.sl (.sl (.i .i64))), (.sl (.sl (.i .i64))), (.i .i64), (.i .i64)], Tup r_law16_SumAnswers.c, m_law16_SumAnswers N, fun y _ k => k (resG T (mkPS 88 r_law16_SumAnswers y) Try.f3.results.toList) (keepH' [] (mkPS 88 r_law16_SumAnswers y).h), false, true⟩
theorem m_law16_SumAnswers_eq (N : Nat) (t : (List Int)) (t2 : (List Int)) (t3 : (List (List Int))) (sums : (List (List Int))) (two : Int) (two2 : Int) : m_law16_SumAnswers (N + 1) (t, t2, t3, sums, two, two2) = obind (m_law16_alive N ()) fun z1 =>
  cond (!z1)
   (some false)
   (obind (m_law16_great N (t, (t2, (t3, sums)))) fun z2 =>
    cond z2
     (some true)
     (obind (m_sum_Total N (t, (t2, (t3, sums)))) fun z3 =>
      obind (m_ref16_Total N (t, (t2, (t3, sums)))) fun z4 =>
      obind (m_sum_Between N (t, (t2, (t3, (sums, (two, two2)))))) fun z5 =>
      obind (m_ref16_Between N (t, (t2, (t3, (sums, (two, two2)))))) fun z6 =>
      cond (decide (z3.1 = z4.1))
       (cond (decide (z3.2 = z4.2))
         (cond (decide (z5.1 = z6.1))
           (cond (decide (z5.2.1 = z6.2.1))
             (cond (decide (z5.2.2 = z6.2.2))
               (obind (m_sum_Weights N (t, (t2, (t3, sums)))) fun z7 =>
                obind (m_ref16_Weights N (t, (t2, (t3, sums)))) fun z8 =>
                obind (m_ref01_Ints N (z7, z8)) fun z9 =>
                some z9)
               (some false))
             (some false))
           (some false))
         (some false))
       (some false))) := by kernel_rfl
theorem c_law16_SumAnswers_ok (N : Nat) : (c_law16_SumAnswers N).ok Try.prog := exF_ok (T := T) (CT := ct_law16_SumAnswers) (N := N) (fun M => ⟨tOk, (ctAll_cons (c_law16_alive_ok M) (ctAll_cons (c_law16_great_ok M) (ctAll_cons (c_sum_Total_ok M) (ctAll_cons (c_ref16_Total_ok M) (ctAll_cons (c_sum_Between_ok M) (ctAll_cons (c_ref16_Between_ok M) (ctAll_cons (c_sum_Weights_ok M) (ctAll_cons (c_ref16_Weights_ok M) (ctAll_cons (c_ref01_Ints_ok M) ctAll_nil))))))))), mixed⟩) Try.func3 (by kernel_rfl) (by kernel_rfl) p_law16_SumAnswers [.ag [.h (.sl (.i .i64)), .h (.sl (.i .i64)), .h (.sl (.sl (.i .i64)))], .h (.sl (.sl (.i .i64))), .ag [.h (.i .i64), .h (.i .i64)]] [] [(.sl (.i .i64)), (.sl (.i .i64)), (.sl (.sl (.i .i64))), (.sl (.sl (.i .i64))), (.i .i64), (.i .i64)] r_law16_SumAnswers false true [] (by kernel_rfl) (fun y => by kernel_rfl) (fun _ => ⟨rfl, rfl⟩) (fun y => by kernel_rfl) (m_law16_SumAnswers N) (fun x => by kernel_rfl)
/-! archipelago/sum.Build -/
noncomputable def ct_sum_Build (N : Nat) : List Ctr := [c_tower_Right N, c_slices_ContainsFunc_Lint_int_sum_odd N]
def i_sum_Build_4 : PS := ⟨[(6, .h (.i .i64)), (7, .k (.ow 900)), (10, .k (.ow 901)), (11, .h (.i .i64)), (14, .h (.i .i64)), (15, .h (.i .i64)), (56, .h (.sl (.sl (.i .i64)))), (57, .h (.i .i64)), (58, .h (.i .i64)), (63, .h (.sl (.i .i64))), (64, .h (.i .i64)), (65, .h (.i .i64))], [(900, .arr 3 (.i .i64) true), (901, .nr 22 (.i .i64) (some (11, 902))), (902, .arr 3 (.i .i64) true)], [(.i .i64), (.i .i64), (.i .i64), (.i .i64), (.sl (.sl (.i .i64))), (.i .i64), (.i .i64), (.sl (.i .i64)), (.i .i64), (.i .i64), (.sl (.i .i64)), (.sl (.sl (.i .i64))), (.i .i64), (.sl (.i .i64))]⟩
def o_sum_Build_4 : List (Exit × PS) := [(.normal, ⟨[(6, .h (.i .i64)), (7, .k (.ow 900)), (10, .k (.ow 901)), (11, .h (.i .i64)), (15, .h (.i .i64)), (56, .h (.sl (.sl (.i .i64)))), (57, .h (.i .i64)), (58, .h (.i .i64)), (63, .h (.sl (.i .i64))), (64, .h (.i .i64)), (65, .h (.i .i64))], [(900, .arr 3 (.i .i64) true), (901, .nr 22 (.i .i64) (some (11, 902))), (902, .arr 3 (.i .i64) true)], [(.i .i64), (.i .i64), (.i .i64), (.sl (.sl (.i .i64))), (.i .i64), (.i .i64), (.sl (.i .i64)), (.i .i64), (.i .i64), (.sl (.i .i64)), (.sl (.sl (.i .i64))), (.i .i64), (.sl (.i .i64))]⟩)]
def p_sum_Build_4 : Pl := .z
noncomputable def l_sum_Build_4 (N : Nat) : Nat → Int × Int × Int × Int × (List (List Int)) × Int × Int × (List Int) × Int × Int × (List Int) × (List (List Int)) × Int × (List Int) → Option (Int × Int × Int × (List (List Int)) × Int × Int × (List Int) × Int × Int × (List Int) × (List (List Int)) × Int × (List Int)) := joinF (exC0 T (ct_sum_Build N) N (codeAt [1, 1, 1, 1, 1, 1, 0, 1, 0, 0, 1, 1, 0, 0, 1, 1, 0, 0, 1, 1, 0, 0, 1, 1, 0] (bodyOf Try.f21))) 100 i_sum_Build_4 o_sum_Build_4 p_sum_Build_4
def i_sum_Build_3 : PS := ⟨[(6, .h (.i .i64)), (7, .k (.ow 900)), (10, .k (.ow 901)), (11, .h (.i .i64)), (56, .h (.sl (.sl (.i .i64)))), (57, .h (.i .i64)), (58, .h (.i .i64)), (63, .h (.sl (.i .i64))), (64, .h (.i .i64)), (65, .h (.i .i64))], [(900, .arr 3 (.i .i64) true), (901, .nr 22 (.i .i64) (some (11, 902))), (902, .arr 3 (.i .i64) true)], [(.i .i64), (.i .i64), (.sl (.sl (.i .i64))), (.i .i64), (.i .i64), (.sl (.i .i64)), (.i .i64), (.i .i64), (.sl (.i .i64)), (.sl (.sl (.i .i64))), (.i .i64), (.sl (.i .i64))]⟩
def o_sum_Build_3 : List (Exit × PS) := [((.exit 4), ⟨[(6, .h (.i .i64)), (7, .k (.ow 900)), (10, .k (.ow 901)), (56, .h (.sl (.sl (.i .i64)))), (57, .h (.i .i64)), (58, .h (.i .i64))], [(900, .arr 3 (.i .i64) true), (901, .nr 22 (.i .i64) (some (0, 902))), (902, .arr 3 (.i .i64) true)], [(.i .i64), (.sl (.sl (.i .i64))), (.i .i64), (.i .i64), (.sl (.i .i64)), (.sl (.sl (.i .i64))), (.i .i64), (.sl (.i .i64))]⟩)]
def p_sum_Build_3 : Pl := (.n .z (.n .z (.n (.n (.n .z (.n .z (.n (.join i_sum_Build_4 o_sum_Build_4 p_sum_Build_4) .z))) .z) .z)))
noncomputable def l_sum_Build_3 (N : Nat) : Nat → Int × Int × (List (List Int)) × Int × Int × (List Int) × Int × Int × (List Int) × (List (List Int)) × Int × (List Int) → Option (Int × (List (List Int)) × Int × Int × (List Int) × (List (List Int)) × Int × (List Int)) := loopF (exC T (ct_sum_Build N) N (codeAt [1, 1, 1, 1, 1, 1, 0, 1, 0, 0, 1, 1, 0, 0, 1, 1, 0, 0] (bodyOf Try.f21))) 100 i_sum_Build_3 o_sum_Build_3 p_sum_Build_3
def i_sum_Build_2 : PS := ⟨[(6, .h (.i .i64)), (7, .k (.ow 900)), (10, .k (.ow 901)), (56, .h (.sl (.sl (.i .i64)))), (57, .h (.i .i64)), (58, .h (.i .i64))], [(900, .arr 3 (.i .i64) true), (901, .nr 22 (.i .i64) none)], [(.i .i64), (.sl (.sl (.i .i64))), (.i .i64), (.i .i64), (.sl (.i .i64)), (.sl (.sl (.i .i64)))]⟩
def o_sum_Build_2 : List (Exit × PS) := [((.exit 2), ⟨[(10, .k (.ow 900))], [(900, .nr 22 (.i .i64) none)], [(.sl (.sl (.i .i64)))]⟩)]
def p_sum_Build_2 : Pl := (.n .z (.n .z (.n (.n (.n .z (.n .z (.n (.loop i_sum_Build_3 o_sum_Build_3 p_sum_Build_3) .z))) .z) .z)))
noncomputable def l_sum_Build_2 (N : Nat) : Nat → Int × (List (List Int)) × Int × Int × (List Int) × (List (List Int)) → Option ((List (List Int))) := loopF (exC T (ct_sum_Build N) N (codeAt [1, 1, 1, 1, 1, 1, 0, 1, 0, 0] (bodyOf Try.f21))) 100 i_sum_Build_2 o_sum_Build_2 p_sum_Build_2
def i_sum_Build_1 : PS := ⟨[(2, .k (.pt 900 0)), (6, .h (.i .i64)), (7, .k (.ow 901)), (35, .h (.sl (.i .i64))), (36, .h (.i .i64)), (37, .h (.i .i64))], [(900, .box 25 [.h (.sl (.i .i64)), .h (.sl (.i .i64)), .h (.sl (.sl (.i .i64)))]), (901, .arr 3 (.i .i64) true)], [(.i .i64), (.sl (.i .i64)), (.i .i64), (.i .i64), (.sl (.i .i64)), (.sl (.i .i64)), (.sl (.sl (.i .i64))), (.sl (.i .i64))]⟩
def o_sum_Build_1 : List (Exit × PS) := [((.exit 0), ⟨[(2, .k (.pt 900 0)), (6, .h (.i .i64)), (7, .k (.ow 901))], [(900, .box 25 [.h (.sl (.i .i64)), .h (.sl (.i .i64)), .h (.sl (.sl (.i .i64)))]), (901, .arr 3 (.i .i64) true)], [(.i .i64), (.sl (.i .i64)), (.sl (.i .i64)), (.sl (.sl (.i .i64))), (.sl (.i .i64))]⟩)]
def p_sum_Build_1 : Pl := .z
noncomputable def l_sum_Build_1 (N : Nat) : Nat → Int × (List Int) × Int × Int × (List Int) × (List Int) × (List (List Int)) × (List Int) → Option (Int × (List Int) × (List Int) × (List (List Int)) × (List Int)) := loopF (exC T (ct_sum_Build N) N (codeAt [1, 1, 1, 1, 0, 1, 0, 0] (bodyOf Try.f21))) 100 i_sum_Build_1 o_sum_Build_1 p_sum_Build_1
def p_sum_Build : Pl := (.n .z (.n .z (.n .z (.n .z (.n (.n .z (.n (.loop i_sum_Build_1 o_sum_Build_1 p_sum_Build_1) .z)) (.n .z (.n (.n .z (.n (.loop i_sum_Build_2 o_sum_Build_2 p_sum_Build_2) .z)) .z)))))))
def r_sum_Build : PS := ⟨[(4, .k (.ow 900)), (5, .h (.i .i64))], [(900, .arr 22 (.sl (.i .i64)) true)], [(.i .i64), (.sl (.sl (.i .i64)))]⟩
noncomputable def m_sum_Build (N : Nat) : (List Int) × (List Int) × (List (List Int)) × (List Int) → Option (Int × (List (List Int))) := exF T ct_sum_Build N (bodyOf Try.f21) 100 p_sum_Build [.ag [.h (.sl (.i .i64)), .h (.sl (.i .i64)), .h (.sl (.sl (.i .i64)))], .h (.sl (.i .i64))] [] [(.sl (.i .i64)), (.sl (.i .i64)), (.sl (.sl (.i .i64))), (.sl (.i .i64))] r_sum_Build
noncomputable def c_sum_Build (N : Nat) : Ctr := ⟨21, [.ag [.h (.sl (.i .i64)), .h (.sl (.i .i64)), .h (.sl (.sl (.i .i64)))], .h (.sl (.i .i64))], [], [(.sl (.i .i64)), (.sl (.i .i64)), (.sl (.sl (.i .i64))), (.sl (.i .i64))], Tup r_sum_Build.c, m_sum_Build N, fun y _ k => k (resG T (mkPS 100 r_sum_Build y) Try.f21.results.toList) (keepH' [900] (mkPS 100 r_sum_Build y).h), true, false⟩
theorem l_sum_Build_4_s (N m : Nat) (n : Int) (i : Int) (to : Int) (s : Int) (v56 : (List (List Int))) (v57 : Int) (v58 : Int) (v63 : (List Int)) (v64 : Int) (v65 : Int) (ahead : (List Int)) (sums : (List (List Int))) (sums2 : Int) (v902 : (List Int)) : l_sum_Build_4 N (m + 1) (n, i, to, s, v56, v57, v58, v63, v64, v65, ahead, sums, sums2, v902) = cond (decide (to ≤ i))
   (obind (nthI ahead n) fun z1 =>
    obind (nthI ahead n) fun z2 =>
    some (n, (i, ((IntKind.wrap .i64 (s + z2)), (v56, (v57, (v58, (v63, (v64, (v65, (ahead, (sums, (sums2, v902)))))))))))))
   (some (n, (i, (s, (v56, (v57, (v58, (v63, (v64, (v65, (ahead, (sums, (sums2, v902))))))))))))) := by kernel_rfl
theorem l_sum_Build_3_z (N : Nat) (v : Int × Int × (List (List Int)) × Int × Int × (List Int) × Int × Int × (List Int) × (List (List Int)) × Int × (List Int)) : l_sum_Build_3 N 0 v = none := by kernel_rfl
theorem l_sum_Build_3_s (N m : Nat) (n : Int) (i : Int) (v56 : (List (List Int))) (v57 : Int) (v58 : Int) (v63 : (List Int)) (v64 : Int) (v65 : Int) (ahead : (List Int)) (sums : (List (List Int))) (sums2 : Int) (v902 : (List Int)) : l_sum_Build_3 N (m + 1) (n, i, v56, v57, v58, v63, v64, v65, ahead, sums, sums2, v902) = cond (decide (v65 < v64))
   (obind (nthI v63 v65) fun z1 =>
    obind (nthI ahead z1) fun z2 =>
    obind (nthI ahead z1) fun z3 =>
    obind (nthI ahead i) fun z4 =>
    obind (nthI ahead i) fun z5 =>
    obind (l_sum_Build_4 N N (n, (i, (z1, ((IntKind.wrap .i64 (z3 - z5)), (v56, (v57, (v58, (v63, (v64, (v65, (ahead, (sums, (sums2, v902)))))))))))))) fun z6 =>
    obind (nthI z6.2.2.2.2.2.2.2.2.2.2.1 z6.2.1) fun z7 =>
    cond (decide ((Int.toNat z6.2.1) = (Int.toNat z6.2.2.2.2.2.2.2.2.2.2.2.1)))
     (obind (nthI z6.2.2.2.2.2.2.2.2.2.2.1 z6.2.1) fun z8 =>
      obind (appI (8 : Nat) z6.2.2.2.2.2.2.2.2.2.2.2.2 [z6.2.2.1]) fun z9 =>
      obind (nthI z6.2.2.2.2.2.2.2.2.2.2.1 z6.2.1) fun z10 =>
      cond (decide ((Int.toNat z6.2.1) = (Int.toNat z6.2.2.2.2.2.2.2.2.2.2.2.1)))
       (obind (nthI z6.2.2.2.2.2.2.2.2.2.2.1 z6.2.1) fun z11 =>
        (l_sum_Build_3 N m (z6.1, (z6.2.1, (z6.2.2.2.1, (z6.2.2.2.2.1, (z6.2.2.2.2.2.1, (z6.2.2.2.2.2.2.1, (z6.2.2.2.2.2.2.2.1, ((IntKind.wrap .i64 (z6.2.2.2.2.2.2.2.2.1 + (1 : Int))), (z6.2.2.2.2.2.2.2.2.2.1, (z6.2.2.2.2.2.2.2.2.2.2.1, (z6.2.1, z9)))))))))))))
       (none))
     (obind (nthI z6.2.2.2.2.2.2.2.2.2.2.1 z6.2.1) fun z12 =>
      cond (isNilL z12)
       (obind (nthI z6.2.2.2.2.2.2.2.2.2.2.1 z6.2.1) fun z13 =>
        cond (decide ((Int.toNat z6.2.1) = (Int.toNat z6.2.2.2.2.2.2.2.2.2.2.2.1)))
         (obind (nthI z6.2.2.2.2.2.2.2.2.2.2.1 z6.2.1) fun z14 =>
          (l_sum_Build_3 N m (z6.1, (z6.2.1, (z6.2.2.2.1, (z6.2.2.2.2.1, (z6.2.2.2.2.2.1, (z6.2.2.2.2.2.2.1, (z6.2.2.2.2.2.2.2.1, ((IntKind.wrap .i64 (z6.2.2.2.2.2.2.2.2.1 + (1 : Int))), (z6.2.2.2.2.2.2.2.2.2.1, (z6.2.2.2.2.2.2.2.2.2.2.1, (z6.2.1, ([] ++ [z6.2.2.1]))))))))))))))
         (none))
       (none)))
   (some (n, (v56, (v57, (v58, (ahead, (sums, (sums2, v902)))))))) := by kernel_rfl
theorem l_sum_Build_2_z (N : Nat) (v : Int × (List (List Int)) × Int × Int × (List Int) × (List (List Int))) : l_sum_Build_2 N 0 v = none := by kernel_rfl
theorem l_sum_Build_2_s (N m : Nat) (n : Int) (v56 : (List (List Int))) (v57 : Int) (v58 : Int) (ahead : (List Int)) (sums : (List (List Int))) : l_sum_Build_2 N (m + 1) (n, v56, v57, v58, ahead, sums) = cond (decide (v58 < v57))
   (obind (nthI v56 v58) fun z1 =>
    obind (nthI sums v58) fun z2 =>
    cond (isNilL z2)
     (obind (l_sum_Build_3 N N (n, (v58, (v56, (v57, (v58, (z1, ((((List.length z1) : Nat) : Int), ((0 : Int), (ahead, (sums, (v58, [])))))))))))) fun z3 =>
      obind (nthI z3.2.2.2.2.2.1 z3.2.2.2.2.2.2.1) fun z4 =>
      cond (isNilL z3.2.2.2.2.2.2.2)
       (none)
       ((l_sum_Build_2 N m (z3.1, (z3.2.1, (z3.2.2.1, ((IntKind.wrap .i64 (z3.2.2.2.1 + (1 : Int))), (z3.2.2.2.2.1, (List.set z3.2.2.2.2.2.1 (Int.toNat z3.2.2.2.2.2.2.1) z3.2.2.2.2.2.2.2)))))))))
     (none))
   (some sums) := by kernel_rfl
theorem l_sum_Build_1_z (N : Nat) (v : Int × (List Int) × Int × Int × (List Int) × (List Int) × (List (List Int)) × (List Int)) : l_sum_Build_1 N 0 v = none := by kernel_rfl
theorem l_sum_Build_1_s (N m : Nat) (n : Int) (v35 : (List Int)) (v36 : Int) (v37 : Int) (t : (List Int)) (t2 : (List Int)) (t3 : (List (List Int))) (ahead : (List Int)) : l_sum_Build_1 N (m + 1) (n, v35, v36, v37, t, t2, t3, ahead) = cond (decide (v37 < v36))
   (obind (nthI v35 v37) fun z1 =>
    obind (nthI ahead v37) fun z2 =>
    obind (nthI ahead v37) fun z3 =>
    obind (nthI ahead (IntKind.wrap .i64 (v37 + (1 : Int)))) fun z4 =>
    obind (nthI ahead (IntKind.wrap .i64 (v37 + (1 : Int)))) fun z5 =>
    (l_sum_Build_1 N m (n, (v35, (v36, ((IntKind.wrap .i64 (v37 + (1 : Int))), (t, (t2, (t3, (List.set ahead (Int.toNat (IntKind.wrap .i64 (v37 + (1 : Int)))) (IntKind.wrap .i64 (z3 + z1))))))))))))
   (some (n, (t, (t2, (t3, ahead))))) := by kernel_rfl
theorem m_sum_Build_eq (N : Nat) (t : (List Int)) (t2 : (List Int)) (t3 : (List (List Int))) (weights : (List Int)) : m_sum_Build (N + 1) (t, t2, t3, weights) = cond (!(decide ((((List.length weights) : Nat) : Int) = (((List.length t) : Nat) : Int))))
   (some ((1 : Int), []))
   (obind (m_tower_Right N (t, (t2, t3))) fun z1 =>
    cond (!z1)
     (some ((1 : Int), []))
     (obind (m_slices_ContainsFunc_Lint_int_sum_odd N weights) fun z2 =>
      cond z2
       (some ((1 : Int), []))
       (obind (makI (IntKind.wrap .i64 ((((List.length t) : Nat) : Int) + (1 : Int))) (8 : Nat)) fun z3 =>
        obind (l_sum_Build_1 N N ((((List.length t) : Nat) : Int), (weights, ((((List.length weights) : Nat) : Int), ((0 : Int), (t, (t2, (t3, (List.replicate z3 (0 : Int)))))))))) fun z4 =>
        obind (makI z4.1 (24 : Nat)) fun z5 =>
        obind (l_sum_Build_2 N N (z4.1, (z4.2.2.2.1, ((((List.length z4.2.2.2.1) : Nat) : Int), ((0 : Int), (z4.2.2.2.2, (List.replicate z5 []))))))) fun z6 =>
        some ((0 : Int), z6)))) := by kernel_rfl
theorem c_sum_Build_ok (N : Nat) : (c_sum_Build N).ok Try.prog := exF_ok (T := T) (CT := ct_sum_Build) (N := N) (fun M => ⟨tOk, (ctAll_cons (c_tower_Right_ok M) (ctAll_cons (c_slices_ContainsFunc_Lint_int_sum_odd_ok M) ctAll_nil)), mixed⟩) Try.func21 (by kernel_rfl) (by kernel_rfl) p_sum_Build [.ag [.h (.sl (.i .i64)), .h (.sl (.i .i64)), .h (.sl (.sl (.i .i64)))], .h (.sl (.i .i64))] [] [(.sl (.i .i64)), (.sl (.i .i64)), (.sl (.sl (.i .i64))), (.sl (.i .i64))] r_sum_Build true false [900] (by kernel_rfl) (fun y => by kernel_rfl) (fun h => by cases h) (fun y => by kernel_rfl) (m_sum_Build N) (fun x => by kernel_rfl)
/-! archipelago/archipelagoref16.Build -/
noncomputable def ct_ref16_Build (N : Nat) : List Ctr := [c_ref14_Right N, c_ref16_may N]
def i_ref16_Build_4 : PS := ⟨[(1, .h (.sl (.i .i64))), (2, .k (.pt 900 0)), (6, .h (.i .i64)), (8, .k (.ow 902)), (9, .h (.i .i64)), (10, .k (.ow 901)), (11, .h (.i .i64)), (12, .h (.i .i64)), (13, .h (.i .i64))], [(900, .box 25 [.h (.sl (.i .i64)), .h (.sl (.i .i64)), .h (.sl (.sl (.i .i64)))]), (902, .arr 22 (.sl (.i .i64)) true), (901, .arr 3 (.i .i64) true)], [(.sl (.i .i64)), (.i .i64), (.i .i64), (.i .i64), (.i .i64), (.i .i64), (.sl (.i .i64)), (.sl (.i .i64)), (.sl (.sl (.i .i64))), (.sl (.sl (.i .i64))), (.sl (.i .i64))]⟩
def o_ref16_Build_4 : List (Exit × PS) := [((.exit 6), ⟨[(1, .h (.sl (.i .i64))), (2, .k (.pt 900 0)), (6, .h (.i .i64)), (8, .k (.ow 901)), (9, .h (.i .i64)), (10, .k (.ow 902)), (11, .h (.i .i64)), (12, .h (.i .i64))], [(900, .box 25 [.h (.sl (.i .i64)), .h (.sl (.i .i64)), .h (.sl (.sl (.i .i64)))]), (901, .arr 22 (.sl (.i .i64)) true), (902, .arr 3 (.i .i64) true)], [(.sl (.i .i64)), (.i .i64), (.i .i64), (.i .i64), (.i .i64), (.sl (.i .i64)), (.sl (.i .i64)), (.sl (.sl (.i .i64))), (.sl (.sl (.i .i64))), (.sl (.i .i64))]⟩)]
def p_ref16_Build_4 : Pl := .z
noncomputable def l_ref16_Build_4 (N : Nat) : Nat → (List Int) × Int × Int × Int × Int × Int × (List Int) × (List Int) × (List (List Int)) × (List (List Int)) × (List Int) → Option ((List Int) × Int × Int × Int × Int × (List Int) × (List Int) × (List (List Int)) × (List (List Int)) × (List Int)) := loopF (exC T (ct_ref16_Build N) N (codeAt [1, 1, 1, 1, 1, 0, 1, 0, 0, 1, 0, 0, 1, 0, 1, 0, 0, 1, 0, 0, 1, 0, 1, 0, 0] (bodyOf Try.f22))) 89 i_ref16_Build_4 o_ref16_Build_4 p_ref16_Build_4
def i_ref16_Build_3 : PS := ⟨[(1, .h (.sl (.i .i64))), (2, .k (.pt 900 0)), (6, .h (.i .i64)), (8, .k (.ow 902)), (9, .h (.i .i64)), (10, .k (.ow 901)), (11, .h (.i .i64))], [(900, .box 25 [.h (.sl (.i .i64)), .h (.sl (.i .i64)), .h (.sl (.sl (.i .i64)))]), (902, .arr 22 (.sl (.i .i64)) true), (901, .arr 3 (.i .i64) true)], [(.sl (.i .i64)), (.i .i64), (.i .i64), (.i .i64), (.sl (.i .i64)), (.sl (.i .i64)), (.sl (.sl (.i .i64))), (.sl (.sl (.i .i64))), (.sl (.i .i64))]⟩
def o_ref16_Build_3 : List (Exit × PS) := [((.exit 4), ⟨[(1, .h (.sl (.i .i64))), (2, .k (.pt 900 0)), (6, .h (.i .i64)), (8, .k (.ow 901)), (9, .h (.i .i64)), (10, .k (.ow 902))], [(900, .box 25 [.h (.sl (.i .i64)), .h (.sl (.i .i64)), .h (.sl (.sl (.i .i64)))]), (901, .arr 22 (.sl (.i .i64)) true), (902, .arr 3 (.i .i64) true)], [(.sl (.i .i64)), (.i .i64), (.i .i64), (.sl (.i .i64)), (.sl (.i .i64)), (.sl (.sl (.i .i64))), (.sl (.sl (.i .i64))), (.sl (.i .i64))]⟩)]
def p_ref16_Build_3 : Pl := (.n .z (.n (.n (.n .z (.n (.n .z (.n (.loop i_ref16_Build_4 o_ref16_Build_4 p_ref16_Build_4) .z)) .z)) .z) .z))
noncomputable def l_ref16_Build_3 (N : Nat) : Nat → (List Int) × Int × Int × Int × (List Int) × (List Int) × (List (List Int)) × (List (List Int)) × (List Int) → Option ((List Int) × Int × Int × (List Int) × (List Int) × (List (List Int)) × (List (List Int)) × (List Int)) := loopF (exC T (ct_ref16_Build N) N (codeAt [1, 1, 1, 1, 1, 0, 1, 0, 0, 1, 0, 0, 1, 0, 1, 0, 0] (bodyOf Try.f22))) 89 i_ref16_Build_3 o_ref16_Build_3 p_ref16_Build_3
def i_ref16_Build_2 : PS := ⟨[(1, .h (.sl (.i .i64))), (2, .k (.pt 900 0)), (6, .h (.i .i64)), (8, .k (.ow 901)), (9, .h (.i .i64))], [(900, .box 25 [.h (.sl (.i .i64)), .h (.sl (.i .i64)), .h (.sl (.sl (.i .i64)))]), (901, .arr 22 (.sl (.i .i64)) true)], [(.sl (.i .i64)), (.i .i64), (.i .i64), (.sl (.i .i64)), (.sl (.i .i64)), (.sl (.sl (.i .i64))), (.sl (.sl (.i .i64)))]⟩
def o_ref16_Build_2 : List (Exit × PS) := [((.exit 2), ⟨[(8, .k (.ow 900))], [(900, .arr 22 (.sl (.i .i64)) true)], [(.sl (.sl (.i .i64)))]⟩)]
def p_ref16_Build_2 : Pl := (.n .z (.n (.n (.n .z (.n (.n .z (.n (.loop i_ref16_Build_3 o_ref16_Build_3 p_ref16_Build_3) .z)) .z)) .z) .z))
noncomputable def l_ref16_Build_2 (N : Nat) : Nat → (List Int) × Int × Int × (List Int) × (List Int) × (List (List Int)) × (List (List Int)) → Option ((List (List Int))) := loopF (exC T (ct_ref16_Build N) N (codeAt [1, 1, 1, 1, 1, 0, 1, 0, 0] (bodyOf Try.f22))) 89 i_ref16_Build_2 o_ref16_Build_2 p_ref16_Build_2
def i_ref16_Build_1 : PS := ⟨[(1, .h (.sl (.i .i64))), (2, .k (.pt 900 0)), (6, .h (.i .i64)), (7, .h (.i .i64))], [(900, .box 25 [.h (.sl (.i .i64)), .h (.sl (.i .i64)), .h (.sl (.sl (.i .i64)))])], [(.sl (.i .i64)), (.i .i64), (.i .i64), (.sl (.i .i64)), (.sl (.i .i64)), (.sl (.sl (.i .i64)))]⟩
def o_ref16_Build_1 : List (Exit × PS) := [((.exit 0), ⟨[(1, .h (.sl (.i .i64))), (2, .k (.pt 900 0)), (6, .h (.i .i64))], [(900, .box 25 [.h (.sl (.i .i64)), .h (.sl (.i .i64)), .h (.sl (.sl (.i .i64)))])], [(.sl (.i .i64)), (.i .i64), (.sl (.i .i64)), (.sl (.i .i64)), (.sl (.sl (.i .i64)))]⟩), (.ret, ⟨[(4, .k .nil), (5, .h (.i .i64))], [], [(.i .i64)]⟩)]
def p_ref16_Build_1 : Pl := .z
noncomputable def l_ref16_Build_1 (N : Nat) : Nat → (List Int) × Int × Int × (List Int) × (List Int) × (List (List Int)) → Option (((List Int) × Int × (List Int) × (List Int) × (List (List Int))) ⊕ (Int)) := loopF (exC T (ct_ref16_Build N) N (codeAt [1, 1, 1, 0, 1, 0, 0] (bodyOf Try.f22))) 89 i_ref16_Build_1 o_ref16_Build_1 p_ref16_Build_1
def p_ref16_Build : Pl := (.n .z (.n .z (.n .z (.n (.n .z (.n (.loop i_ref16_Build_1 o_ref16_Build_1 p_ref16_Build_1) .z)) (.n .z (.n (.n .z (.n (.loop i_ref16_Build_2 o_ref16_Build_2 p_ref16_Build_2) .z)) .z))))))
def r_ref16_Build : PS := ⟨[(4, .k (.ow 900)), (5, .h (.i .i64))], [(900, .arr 22 (.sl (.i .i64)) true)], [(.i .i64), (.sl (.sl (.i .i64)))]⟩
noncomputable def m_ref16_Build (N : Nat) : (List Int) × (List Int) × (List (List Int)) × (List Int) → Option (Int × (List (List Int))) := exF T ct_ref16_Build N (bodyOf Try.f22) 89 p_ref16_Build [.ag [.h (.sl (.i .i64)), .h (.sl (.i .i64)), .h (.sl (.sl (.i .i64)))], .h (.sl (.i .i64))] [] [(.sl (.i .i64)), (.sl (.i .i64)), (.sl (.sl (.i .i64))), (.sl (.i .i64))] r_ref16_Build
noncomputable def c_ref16_Build (N : Nat) : Ctr := ⟨22, [.ag [.h (.sl (.i .i64)), .h (.sl (.i .i64)), .h (.sl (.sl (.i .i64)))], .h (.sl (.i .i64))], [], [(.sl (.i .i64)), (.sl (.i .i64)), (.sl (.sl (.i .i64))), (.sl (.i .i64))], Tup r_ref16_Build.c, m_ref16_Build N, fun y _ k => k (resG T (mkPS 89 r_ref16_Build y) Try.f22.results.toList) (keepH' [900] (mkPS 89 r_ref16_Build y).h), true, false⟩
theorem l_ref16_Build_4_z (N : Nat) (v : (List Int) × Int × Int × Int × Int × Int × (List Int) × (List Int) × (List (List Int)) × (List (List Int)) × (List Int)) : l_ref16_Build_4 N 0 v = none := by kernel_rfl
theorem l_ref16_Build_4_s (N m : Nat) (weights : (List Int)) (n : Int) (i : Int) (h : Int) (sum : Int) (k : Int) (t : (List Int)) (t2 : (List Int)) (t3 : (List (List Int))) (out : (List (List Int))) (l : (List Int)) : l_ref16_Build_4 N (m + 1) (weights, n, i, h, sum, k, t, t2, t3, out, l) = obind (nthI t3 i) fun z1 =>
  obind (nthI z1 h) fun z2 =>
  cond (!(decide (k = z2)))
   (obind (nthI weights k) fun z3 =>
    obind (remI (IntKind.wrap .i64 (k + (1 : Int))) n) fun z4 =>
    (l_ref16_Build_4 N m (weights, (n, (i, (h, ((IntKind.wrap .i64 (sum + z3)), (z4, (t, (t2, (t3, (out, l))))))))))))
   (some (weights, (n, (i, (h, (sum, (t, (t2, (t3, (out, l)))))))))) := by kernel_rfl
theorem l_ref16_Build_3_z (N : Nat) (v : (List Int) × Int × Int × Int × (List Int) × (List Int) × (List (List Int)) × (List (List Int)) × (List Int)) : l_ref16_Build_3 N 0 v = none := by kernel_rfl
theorem l_ref16_Build_3_s (N m : Nat) (weights : (List Int)) (n : Int) (i : Int) (h : Int) (t : (List Int)) (t2 : (List Int)) (t3 : (List (List Int))) (out : (List (List Int))) (l : (List Int)) : l_ref16_Build_3 N (m + 1) (weights, n, i, h, t, t2, t3, out, l) = obind (nthI t3 i) fun z1 =>
  cond (decide (h < (((List.length z1) : Nat) : Int)))
   (obind (nthI weights i) fun z2 =>
    obind (remI (IntKind.wrap .i64 (i + (1 : Int))) n) fun z3 =>
    obind (l_ref16_Build_4 N N (weights, (n, (i, (h, (z2, (z3, (t, (t2, (t3, (out, l))))))))))) fun z4 =>
    obind (appI (8 : Nat) z4.2.2.2.2.2.2.2.2.2 [z4.2.2.2.2.1]) fun z5 =>
    (l_ref16_Build_3 N m (z4.1, (z4.2.1, (z4.2.2.1, ((IntKind.wrap .i64 (z4.2.2.2.1 + (1 : Int))), (z4.2.2.2.2.2.1, (z4.2.2.2.2.2.2.1, (z4.2.2.2.2.2.2.2.1, (z4.2.2.2.2.2.2.2.2.1, z5))))))))))
   (some (weights, (n, (i, (t, (t2, (t3, (out, l)))))))) := by kernel_rfl
theorem l_ref16_Build_2_z (N : Nat) (v : (List Int) × Int × Int × (List Int) × (List Int) × (List (List Int)) × (List (List Int))) : l_ref16_Build_2 N 0 v = none := by kernel_rfl
theorem l_ref16_Build_2_s (N m : Nat) (weights : (List Int)) (n : Int) (i : Int) (t : (List Int)) (t2 : (List Int)) (t3 : (List (List Int))) (out : (List (List Int))) : l_ref16_Build_2 N (m + 1) (weights, n, i, t, t2, t3, out) = cond (decide (i < n))
   (obind (l_ref16_Build_3 N N (weights, (n, (i, ((0 : Int), (t, (t2, (t3, (out, []))))))))) fun z1 =>
    obind (appI (24 : Nat) z1.2.2.2.2.2.2.1 [z1.2.2.2.2.2.2.2]) fun z2 =>
    (l_ref16_Build_2 N m (z1.1, (z1.2.1, ((IntKind.wrap .i64 (z1.2.2.1 + (1 : Int))), (z1.2.2.2.1, (z1.2.2.2.2.1, (z1.2.2.2.2.2.1, z2))))))))
   (some out) := by kernel_rfl
theorem l_ref16_Build_1_z (N : Nat) (v : (List Int) × Int × Int × (List Int) × (List Int) × (List (List Int))) : l_ref16_Build_1 N 0 v = none := by kernel_rfl
theorem l_ref16_Build_1_s (N m : Nat) (weights : (List Int)) (n : Int) (i : Int) (t : (List Int)) (t2 : (List Int)) (t3 : (List (List Int))) : l_ref16_Build_1 N (m + 1) (weights, n, i, t, t2, t3) = cond (decide (i < n))
   (obind (nthI weights i) fun z1 =>
    obind (m_ref16_may N z1) fun z2 =>
    cond (!z2)
     (some (.inr (1 : Int)))
     ((l_ref16_Build_1 N m (weights, (n, ((IntKind.wrap .i64 (i + (1 : Int))), (t, (t2, t3))))))))
   (some (.inl (weights, (n, (t, (t2, t3)))))) := by kernel_rfl
theorem m_ref16_Build_eq (N : Nat) (t : (List Int)) (t2 : (List Int)) (t3 : (List (List Int))) (weights : (List Int)) : m_ref16_Build (N + 1) (t, t2, t3, weights) = obind (m_ref14_Right N (t, (t2, t3))) fun z1 =>
  cond (!z1)
   (some ((1 : Int), []))
   (cond (!(decide ((((List.length weights) : Nat) : Int) = (((List.length t) : Nat) : Int))))
     (some ((1 : Int), []))
     (obind (l_ref16_Build_1 N N (weights, ((((List.length t) : Nat) : Int), ((0 : Int), (t, (t2, t3)))))) fun z2 =>
      (match z2 with
      | .inl zy3 => obind (l_ref16_Build_2 N N (zy3.1, (zy3.2.1, ((0 : Int), (zy3.2.2.1, (zy3.2.2.2.1, (zy3.2.2.2.2, []))))))) fun z4 =>
        some ((0 : Int), z4)
      | .inr zy5 => some (zy5, [])))) := by kernel_rfl
theorem c_ref16_Build_ok (N : Nat) : (c_ref16_Build N).ok Try.prog := exF_ok (T := T) (CT := ct_ref16_Build) (N := N) (fun M => ⟨tOk, (ctAll_cons (c_ref14_Right_ok M) (ctAll_cons (c_ref16_may_ok M) ctAll_nil)), mixed⟩) Try.func22 (by kernel_rfl) (by kernel_rfl) p_ref16_Build [.ag [.h (.sl (.i .i64)), .h (.sl (.i .i64)), .h (.sl (.sl (.i .i64)))], .h (.sl (.i .i64))] [] [(.sl (.i .i64)), (.sl (.i .i64)), (.sl (.sl (.i .i64))), (.sl (.i .i64))] r_ref16_Build true false [900] (by kernel_rfl) (fun y => by kernel_rfl) (fun h => by cases h) (fun y => by kernel_rfl) (m_ref16_Build N) (fun x => by kernel_rfl)
/-! archipelago/archipelagoref16.Change -/
noncomputable def ct_ref16_Change (N : Nat) : List Ctr := [c_ref16_Weights N, c_ref16_may N, c_ref16_Build_o N]
def i_ref16_Change_4 : PS := ⟨[(1, .h (.sl (.sl (.i .i64)))), (14, .k (.ow 900)), (15, .h (.i .i64)), (16, .h (.i .i64)), (17, .h (.i .i64)), (18, .h (.i .i64))], [(900, .arr 22 (.sl (.i .i64)) true)], [(.sl (.sl (.i .i64))), (.i .i64), (.i .i64), (.i .i64), (.i .i64), (.sl (.sl (.i .i64)))]⟩
def o_ref16_Change_4 : List (Exit × PS) := [((.exit 6), ⟨[(1, .h (.sl (.sl (.i .i64)))), (14, .k (.ow 900)), (15, .h (.i .i64)), (16, .h (.i .i64)), (17, .h (.i .i64))], [(900, .arr 22 (.sl (.i .i64)) true)], [(.sl (.sl (.i .i64))), (.i .i64), (.i .i64), (.i .i64), (.sl (.sl (.i .i64)))]⟩)]
def p_ref16_Change_4 : Pl := .z
noncomputable def l_ref16_Change_4 (N : Nat) : Nat → (List (List Int)) × Int × Int × Int × Int × (List (List Int)) → Option ((List (List Int)) × Int × Int × Int × (List (List Int))) := loopF (exC T (ct_ref16_Change N) N (codeAt [1, 1, 1, 1, 1, 1, 1, 0, 1, 0, 0, 1, 0, 0, 1, 0, 0] (bodyOf Try.f24))) 115 i_ref16_Change_4 o_ref16_Change_4 p_ref16_Change_4
def i_ref16_Change_3 : PS := ⟨[(1, .h (.sl (.sl (.i .i64)))), (14, .k (.ow 900)), (15, .h (.i .i64)), (16, .h (.i .i64)), (17, .h (.i .i64))], [(900, .arr 22 (.sl (.i .i64)) true)], [(.sl (.sl (.i .i64))), (.i .i64), (.i .i64), (.i .i64), (.sl (.sl (.i .i64)))]⟩
def o_ref16_Change_3 : List (Exit × PS) := [((.exit 4), ⟨[(14, .k (.ow 900)), (15, .h (.i .i64)), (16, .h (.i .i64))], [(900, .arr 22 (.sl (.i .i64)) true)], [(.i .i64), (.i .i64), (.sl (.sl (.i .i64)))]⟩)]
def p_ref16_Change_3 : Pl := (.n .z (.n (.n (.n .z (.n (.loop i_ref16_Change_4 o_ref16_Change_4 p_ref16_Change_4) .z)) .z) .z))
noncomputable def l_ref16_Change_3 (N : Nat) : Nat → (List (List Int)) × Int × Int × Int × (List (List Int)) → Option (Int × Int × (List (List Int))) := loopF (exC T (ct_ref16_Change N) N (codeAt [1, 1, 1, 1, 1, 1, 1, 0, 1, 0, 0] (bodyOf Try.f24))) 115 i_ref16_Change_3 o_ref16_Change_3 p_ref16_Change_3
def i_ref16_Change_2 : PS := ⟨[(1, .h (.sl (.sl (.i .i64)))), (2, .h (.sl (.i .i64))), (3, .h (.sl (.i .i64))), (4, .k (.pt 900 0)), (11, .k (.ow 901)), (13, .h (.i .i64))], [(900, .box 25 [.h (.sl (.i .i64)), .h (.sl (.i .i64)), .h (.sl (.sl (.i .i64)))]), (901, .arr 3 (.i .i64) true)], [(.sl (.sl (.i .i64))), (.sl (.i .i64)), (.sl (.i .i64)), (.i .i64), (.sl (.i .i64)), (.sl (.i .i64)), (.sl (.sl (.i .i64))), (.sl (.i .i64))]⟩
def o_ref16_Change_2 : List (Exit × PS) := [((.exit 2), ⟨[(1, .h (.sl (.sl (.i .i64)))), (4, .k (.pt 900 0)), (11, .k (.ow 901))], [(900, .box 25 [.h (.sl (.i .i64)), .h (.sl (.i .i64)), .h (.sl (.sl (.i .i64)))]), (901, .arr 3 (.i .i64) true)], [(.sl (.sl (.i .i64))), (.sl (.i .i64)), (.sl (.i .i64)), (.sl (.sl (.i .i64))), (.sl (.i .i64))]⟩), (.ret, ⟨[(8, .k .nil), (9, .h (.i .i64)), (10, .h (.i .i64))], [], [(.i .i64), (.i .i64)]⟩)]
def p_ref16_Change_2 : Pl := .z
noncomputable def l_ref16_Change_2 (N : Nat) : Nat → (List (List Int)) × (List Int) × (List Int) × Int × (List Int) × (List Int) × (List (List Int)) × (List Int) → Option (((List (List Int)) × (List Int) × (List Int) × (List (List Int)) × (List Int)) ⊕ (Int × Int)) := loopF (exC T (ct_ref16_Change N) N (codeAt [1, 1, 1, 1, 0, 1, 0, 0] (bodyOf Try.f24))) 115 i_ref16_Change_2 o_ref16_Change_2 p_ref16_Change_2
def i_ref16_Change_1 : PS := ⟨[(1, .h (.sl (.sl (.i .i64)))), (2, .h (.sl (.i .i64))), (3, .h (.sl (.i .i64))), (4, .k (.pt 900 0)), (11, .k (.ow 901)), (12, .h (.i .i64))], [(900, .box 25 [.h (.sl (.i .i64)), .h (.sl (.i .i64)), .h (.sl (.sl (.i .i64)))]), (901, .arr 3 (.i .i64) true)], [(.sl (.sl (.i .i64))), (.sl (.i .i64)), (.sl (.i .i64)), (.i .i64), (.sl (.i .i64)), (.sl (.i .i64)), (.sl (.sl (.i .i64))), (.sl (.i .i64))]⟩
def o_ref16_Change_1 : List (Exit × PS) := [((.exit 0), ⟨[(1, .h (.sl (.sl (.i .i64)))), (2, .h (.sl (.i .i64))), (3, .h (.sl (.i .i64))), (4, .k (.pt 900 0)), (11, .k (.ow 901))], [(900, .box 25 [.h (.sl (.i .i64)), .h (.sl (.i .i64)), .h (.sl (.sl (.i .i64)))]), (901, .arr 3 (.i .i64) true)], [(.sl (.sl (.i .i64))), (.sl (.i .i64)), (.sl (.i .i64)), (.sl (.i .i64)), (.sl (.i .i64)), (.sl (.sl (.i .i64))), (.sl (.i .i64))]⟩), (.ret, ⟨[(8, .k .nil), (9, .h (.i .i64)), (10, .h (.i .i64))], [], [(.i .i64), (.i .i64)]⟩)]
def p_ref16_Change_1 : Pl := .z
noncomputable def l_ref16_Change_1 (N : Nat) : Nat → (List (List Int)) × (List Int) × (List Int) × Int × (List Int) × (List Int) × (List (List Int)) × (List Int) → Option (((List (List Int)) × (List Int) × (List Int) × (List Int) × (List Int) × (List (List Int)) × (List Int)) ⊕ (Int × Int)) := loopF (exC T (ct_ref16_Change N) N (codeAt [1, 1, 1, 0, 1, 0, 0] (bodyOf Try.f24))) 115 i_ref16_Change_1 o_ref16_Change_1 p_ref16_Change_1
def p_ref16_Change : Pl := (.n .z (.n .z (.n .z (.n (.n .z (.n (.loop i_ref16_Change_1 o_ref16_Change_1 p_ref16_Change_1) .z)) (.n (.n .z (.n (.loop i_ref16_Change_2 o_ref16_Change_2 p_ref16_Change_2) .z)) (.n .z (.n .z (.n (.n .z (.n (.loop i_ref16_Change_3 o_ref16_Change_3 p_ref16_Change_3) .z)) .z))))))))
def r_ref16_Change : PS := ⟨[(8, .k (.ow 900)), (9, .h (.i .i64)), (10, .h (.i .i64))], [(900, .arr 22 (.sl (.i .i64)) true)], [(.i .i64), (.i .i64), (.sl (.sl (.i .i64)))]⟩
noncomputable def m_ref16_Change (N : Nat) : (List Int) × (List Int) × (List (List Int)) × (List (List Int)) × (List Int) × (List Int) → Option (Int × Int × (List (List Int))) := exF T ct_ref16_Change N (bodyOf Try.f24) 115 p_ref16_Change [.ag [.h (.sl (.i .i64)), .h (.sl (.i .i64)), .h (.sl (.sl (.i .i64)))], .h (.sl (.sl (.i .i64))), .h (.sl (.i .i64)), .h (.sl (.i .i64))] [] [(.sl (.i .i64)), (.sl (.i .i64)), (.sl (.sl (.i .i64))), (.sl (.sl (.i .i64))), (.sl (.i .i64)), (.sl (.i .i64))] r_ref16_Change
noncomputable def c_ref16_Change (N : Nat) : Ctr := ⟨24, [.ag [.h (.sl (.i .i64)), .h (.sl (.i .i64)), .h (.sl (.sl (.i .i64)))], .h (.sl (.sl (.i .i64))), .h (.sl (.i .i64)), .h (.sl (.i .i64))], [], [(.sl (.i .i64)), (.sl (.i .i64)), (.sl (.sl (.i .i64))), (.sl (.sl (.i .i64))), (.sl (.i .i64)), (.sl (.i .i64))], Tup r_ref16_Change.c, m_ref16_Change N, fun y _ k => k (resG T (mkPS 115 r_ref16_Change y) Try.f24.results.toList) (keepH' [900] (mkPS 115 r_ref16_Change y).h), true, false⟩
theorem l_ref16_Change_4_z (N : Nat) (v : (List (List Int)) × Int × Int × Int × Int × (List (List Int))) : l_ref16_Change_4 N 0 v = none := by kernel_rfl
theorem l_ref16_Change_4_s (N m : Nat) (sums : (List (List Int))) (e : Int) (n : Int) (i : Int) (h : Int) (out : (List (List Int))) : l_ref16_Change_4 N (m + 1) (sums, e, n, i, h, out) = obind (nthI out i) fun z1 =>
  obind (nthI out i) fun z2 =>
  cond (decide (h < (((List.length z2) : Nat) : Int)))
   (obind (nthI out i) fun z3 =>
    obind (nthI out i) fun z4 =>
    obind (nthI z4 h) fun z5 =>
    obind (nthI sums i) fun z6 =>
    obind (nthI z6 h) fun z7 =>
    cond (!(decide (z5 = z7)))
     ((l_ref16_Change_4 N m (sums, (e, ((IntKind.wrap .i64 (n + (1 : Int))), (i, ((IntKind.wrap .i64 (h + (1 : Int))), out)))))))
     ((l_ref16_Change_4 N m (sums, (e, (n, (i, ((IntKind.wrap .i64 (h + (1 : Int))), out))))))))
   (some (sums, (e, (n, (i, out))))) := by kernel_rfl
theorem l_ref16_Change_3_z (N : Nat) (v : (List (List Int)) × Int × Int × Int × (List (List Int))) : l_ref16_Change_3 N 0 v = none := by kernel_rfl
theorem l_ref16_Change_3_s (N m : Nat) (sums : (List (List Int))) (e : Int) (n : Int) (i : Int) (out : (List (List Int))) : l_ref16_Change_3 N (m + 1) (sums, e, n, i, out) = cond (decide (i < (((List.length out) : Nat) : Int)))
   (obind (l_ref16_Change_4 N N (sums, (e, (n, (i, ((0 : Int), out)))))) fun z1 =>
    (l_ref16_Change_3 N m (z1.1, (z1.2.1, (z1.2.2.1, ((IntKind.wrap .i64 (z1.2.2.2.1 + (1 : Int))), z1.2.2.2.2))))))
   (some (e, (n, out))) := by kernel_rfl
theorem l_ref16_Change_2_z (N : Nat) (v : (List (List Int)) × (List Int) × (List Int) × Int × (List Int) × (List Int) × (List (List Int)) × (List Int)) : l_ref16_Change_2 N 0 v = none := by kernel_rfl
theorem l_ref16_Change_2_s (N m : Nat) (sums : (List (List Int))) (places : (List Int)) (weights : (List Int)) (i : Int) (t : (List Int)) (t2 : (List Int)) (t3 : (List (List Int))) (w : (List Int)) : l_ref16_Change_2 N (m + 1) (sums, places, weights, i, t, t2, t3, w) = cond (decide (i < (((List.length places) : Nat) : Int)))
   (obind (nthI places i) fun z1 =>
    cond (decide (z1 < (0 : Int)))
     (some (.inr ((0 : Int), (6 : Int))))
     (obind (nthI places i) fun z2 =>
      cond (decide ((((List.length w) : Nat) : Int) ≤ z2))
       (some (.inr ((0 : Int), (6 : Int))))
       (obind (nthI places i) fun z3 =>
        obind (nthI weights i) fun z4 =>
        obind (nthI w z3) fun z5 =>
        obind (nthI w z3) fun z6 =>
        (l_ref16_Change_2 N m (sums, (places, (weights, ((IntKind.wrap .i64 (i + (1 : Int))), (t, (t2, (t3, (List.set w (Int.toNat z3) z4))))))))))))
   (some (.inl (sums, (t, (t2, (t3, w)))))) := by kernel_rfl
theorem l_ref16_Change_1_z (N : Nat) (v : (List (List Int)) × (List Int) × (List Int) × Int × (List Int) × (List Int) × (List (List Int)) × (List Int)) : l_ref16_Change_1 N 0 v = none := by kernel_rfl
theorem l_ref16_Change_1_s (N m : Nat) (sums : (List (List Int))) (places : (List Int)) (weights : (List Int)) (i : Int) (t : (List Int)) (t2 : (List Int)) (t3 : (List (List Int))) (w : (List Int)) : l_ref16_Change_1 N (m + 1) (sums, places, weights, i, t, t2, t3, w) = cond (decide (i < (((List.length weights) : Nat) : Int)))
   (obind (nthI weights i) fun z1 =>
    obind (m_ref16_may N z1) fun z2 =>
    cond (!z2)
     (some (.inr ((0 : Int), (1 : Int))))
     ((l_ref16_Change_1 N m (sums, (places, (weights, ((IntKind.wrap .i64 (i + (1 : Int))), (t, (t2, (t3, w))))))))))
   (some (.inl (sums, (places, (weights, (t, (t2, (t3, w)))))))) := by kernel_rfl
theorem m_ref16_Change_eq (N : Nat) (t : (List Int)) (t2 : (List Int)) (t3 : (List (List Int))) (sums : (List (List Int))) (places : (List Int)) (weights : (List Int)) : m_ref16_Change (N + 1) (t, t2, t3, sums, places, weights) = obind (m_ref16_Weights N (t, (t2, (t3, sums)))) fun z1 =>
  cond (decide ((((List.length z1) : Nat) : Int) = (0 : Int)))
   (some ((0 : Int), ((1 : Int), [])))
   (cond (!(decide ((((List.length places) : Nat) : Int) = (((List.length weights) : Nat) : Int))))
     (some ((0 : Int), ((1 : Int), [])))
     (obind (l_ref16_Change_1 N N (sums, (places, (weights, ((0 : Int), (t, (t2, (t3, z1)))))))) fun z2 =>
      (match z2 with
      | .inl zy3 => obind (l_ref16_Change_2 N N (zy3.1, (zy3.2.1, (zy3.2.2.1, ((0 : Int), (zy3.2.2.2.1, (zy3.2.2.2.2.1, (zy3.2.2.2.2.2.1, zy3.2.2.2.2.2.2)))))))) fun z4 =>
        (match z4 with
        | .inl zy5 => obind (m_ref16_Build_o N (zy5.2.1, (zy5.2.2.1, (zy5.2.2.2.1, zy5.2.2.2.2)))) fun z6 =>
          obind (l_ref16_Change_3 N N (zy5.1, (z6.1, ((0 : Int), ((0 : Int), z6.2.1))))) fun z7 =>
          some (z7.2.1, (z7.1, z7.2.2))
        | .inr zy8 => some (zy8.1, (zy8.2, [])))
      | .inr zy9 => some (zy9.1, (zy9.2, []))))) := by kernel_rfl
theorem c_ref16_Change_ok (N : Nat) : (c_ref16_Change N).ok Try.prog := exF_ok (T := T) (CT := ct_ref16_Change) (N := N) (fun M => ⟨tOk, (ctAll_cons (c_ref16_Weights_ok M) (ctAll_cons (c_ref16_may_ok M) (ctAll_cons (c_ref16_Build_o_ok M) ctAll_nil))), mixed⟩) Try.func24 (by kernel_rfl) (by kernel_rfl) p_ref16_Change [.ag [.h (.sl (.i .i64)), .h (.sl (.i .i64)), .h (.sl (.sl (.i .i64)))], .h (.sl (.sl (.i .i64))), .h (.sl (.i .i64)), .h (.sl (.i .i64))] [] [(.sl (.i .i64)), (.sl (.i .i64)), (.sl (.sl (.i .i64))), (.sl (.sl (.i .i64))), (.sl (.i .i64)), (.sl (.i .i64))] r_ref16_Change true false [900] (by kernel_rfl) (fun y => by kernel_rfl) (fun h => by cases h) (fun y => by kernel_rfl) (m_ref16_Change N) (fun x => by kernel_rfl)
/-! archipelago/archipelagolaw16.SumBuilds -/
noncomputable def ct_law16_SumBuilds (N : Nat) : List Ctr := [c_law16_alive N, c_law16_great N, c_sum_Build N, c_ref16_Build N, c_sum_Change N, c_ref16_Change N, c_ref14_Lists N]
def p_law16_SumBuilds : Pl := .z
def r_law16_SumBuilds : PS := ⟨[(6, .h .b)], [], [.b]⟩
noncomputable def m_law16_SumBuilds (N : Nat) : (List Int) × (List Int) × (List (List Int)) × (List Int) × (List (List Int)) × (List Int) × (List Int) → Option (Bool) := exF T ct_law16_SumBuilds N (bodyOf Try.f4) 99 p_law16_SumBuilds [.ag [.h (.sl (.i .i64)), .h (.sl (.i .i64)), .h (.sl (.sl (.i .i64)))], .h (.sl (.i .i64)), .ag [.h (.sl (.sl (.i .i64))), .h (.sl (.i .i64)), .h (.sl (.i .i64))]] [] [(.sl (.i .i64)), (.sl (.i .i64)), (.sl (.sl (.i .i64))), (.sl (.i .i64)), (.sl (.sl (.i .i64))), (.sl (.i .i64)), (.sl (.i .i64))] r_law16_SumBuilds
noncomputable def c_law16_SumBuilds (N : Nat) : Ctr := ⟨4, [.ag [.h (.sl (.i .i64)), .h (.sl (.i .i64)), .h (.sl (.sl (.i .i64)))], .h (.sl (.i .i64)), .ag [.h (.sl (.sl (.i .i64))), .h (.sl (.i .i64)), .h (.sl (.i .i64))]], [], [(.sl (.i .i64)), (.sl (.i .i64)), (.sl (.sl (.i .i64))), (.sl (.i .i64)), (.sl (.sl (.i .i64))), (.sl (.i .i64)), (.sl (.i .i64))], Tup r_law16_SumBuilds.c, m_law16_SumBuilds N, fun y _ k => k (resG T (mkPS 99 r_law16_SumBuilds y) Try.f4.results.toList) (keepH' [] (mkPS 99 r_law16_SumBuilds y).h), false, true⟩
theorem m_law16_SumBuilds_eq (N : Nat) (t : (List Int)) (t2 : (List Int)) (t3 : (List (List Int))) (weights : (List Int)) (c : (List (List Int))) (c2 : (List Int)) (c3 : (List Int)) : m_law16_SumBuilds (N + 1) (t, t2, t3, weights, c, c2, c3) = obind (m_law16_alive N ()) fun z1 =>
  cond (!z1)
   (some false)
   (obind (m_law16_great N (t, (t2, (t3, c)))) fun z2 =>
    cond z2
     (some true)
     (cond (decide ((200 : Int) < (((List.length weights) : Nat) : Int)))
       (some true)
       (cond (decide ((30 : Int) < (((List.length c2) : Nat) : Int)))
         (some true)
         (cond (decide ((30 : Int) < (((List.length c3) : Nat) : Int)))
           (some true)
           (obind (m_sum_Build N (t, (t2, (t3, weights)))) fun z3 =>
            obind (m_ref16_Build N (t, (t2, (t3, weights)))) fun z4 =>
            obind (m_sum_Change N (t, (t2, (t3, (c, (c2, c3)))))) fun z5 =>
            obind (m_ref16_Change N (t, (t2, (t3, (c, (c2, c3)))))) fun z6 =>
            obind (m_ref14_Lists N (z3.2, z4.2)) fun z7 =>
            cond z7
             (cond (decide (z3.1 = z4.1))
               (obind (m_ref14_Lists N (z5.2.2, z6.2.2)) fun z8 =>
                cond z8
                 (cond (decide (z5.1 = z6.1))
                   (some (decide (z5.2.1 = z6.2.1)))
                   (some false))
                 (some false))
               (some false))
             (some false)))))) := by kernel_rfl
theorem c_law16_SumBuilds_ok (N : Nat) : (c_law16_SumBuilds N).ok Try.prog := exF_ok (T := T) (CT := ct_law16_SumBuilds) (N := N) (fun M => ⟨tOk, (ctAll_cons (c_law16_alive_ok M) (ctAll_cons (c_law16_great_ok M) (ctAll_cons (c_sum_Build_ok M) (ctAll_cons (c_ref16_Build_ok M) (ctAll_cons (c_sum_Change_ok M) (ctAll_cons (c_ref16_Change_ok M) (ctAll_cons (c_ref14_Lists_ok M) ctAll_nil))))))), mixed⟩) Try.func4 (by kernel_rfl) (by kernel_rfl) p_law16_SumBuilds [.ag [.h (.sl (.i .i64)), .h (.sl (.i .i64)), .h (.sl (.sl (.i .i64)))], .h (.sl (.i .i64)), .ag [.h (.sl (.sl (.i .i64))), .h (.sl (.i .i64)), .h (.sl (.i .i64))]] [] [(.sl (.i .i64)), (.sl (.i .i64)), (.sl (.sl (.i .i64))), (.sl (.i .i64)), (.sl (.sl (.i .i64))), (.sl (.i .i64)), (.sl (.i .i64))] r_law16_SumBuilds false true [] (by kernel_rfl) (fun y => by kernel_rfl) (fun _ => ⟨rfl, rfl⟩) (fun y => by kernel_rfl) (m_law16_SumBuilds N) (fun x => by kernel_rfl)
/-! archipelago/archipelagolaw16.SumParts -/
noncomputable def ct_law16_SumParts (N : Nat) : List Ctr := [c_law16_alive N, c_ref14_Great N, c_sum_Build N, c_sum_Total N, c_sum_Between N]
def i_law16_SumParts_1 : PS := ⟨[(3, .k (.pt 900 0)), (7, .k (.ow 901)), (9, .h (.i .i64)), (10, .h (.i .i64)), (11, .h (.i .i64)), (12, .h (.i .i64)), (13, .h (.i .i64)), (14, .h (.i .i64)), (15, .h (.i .i64)), (16, .h (.i .i64)), (17, .h (.i .i64)), (18, .h (.i .i64)), (20, .h (.i .i64)), (21, .h (.i .i64)), (23, .h (.i .i64))], [(900, .box 25 [.h (.sl (.i .i64)), .h (.sl (.i .i64)), .h (.sl (.sl (.i .i64)))]), (901, .arr 22 (.sl (.i .i64)) true)], [(.i .i64), (.i .i64), (.i .i64), (.i .i64), (.i .i64), (.i .i64), (.i .i64), (.i .i64), (.i .i64), (.i .i64), (.i .i64), (.i .i64), (.i .i64), (.sl (.i .i64)), (.sl (.i .i64)), (.sl (.sl (.i .i64))), (.sl (.sl (.i .i64)))]⟩
def o_law16_SumParts_1 : List (Exit × PS) := [(.ret, ⟨[(6, .h .b)], [], [.b]⟩), (.normal, ⟨[(3, .k (.pt 900 0)), (7, .k (.ow 901)), (9, .h (.i .i64)), (10, .h (.i .i64)), (11, .h (.i .i64)), (12, .h (.i .i64)), (13, .h (.i .i64)), (15, .h (.i .i64))], [(900, .box 25 [.h (.sl (.i .i64)), .h (.sl (.i .i64)), .h (.sl (.sl (.i .i64)))]), (901, .arr 22 (.sl (.i .i64)) true)], [(.i .i64), (.i .i64), (.i .i64), (.i .i64), (.i .i64), (.i .i64), (.sl (.i .i64)), (.sl (.i .i64)), (.sl (.sl (.i .i64))), (.sl (.sl (.i .i64)))]⟩)]
def p_law16_SumParts_1 : Pl := .z
noncomputable def l_law16_SumParts_1 (N : Nat) : Nat → Int × Int × Int × Int × Int × Int × Int × Int × Int × Int × Int × Int × Int × (List Int) × (List Int) × (List (List Int)) × (List (List Int)) → Option ((Bool) ⊕ (Int × Int × Int × Int × Int × Int × (List Int) × (List Int) × (List (List Int)) × (List (List Int)))) := joinF (exC0 T (ct_law16_SumParts N) N (codeAt [1, 1, 1, 1, 1, 1, 1, 1, 1, 1, 1, 0] (bodyOf Try.f5))) 198 i_law16_SumParts_1 o_law16_SumParts_1 p_law16_SumParts_1
def p_law16_SumParts : Pl := (.n .z (.n .z (.n .z (.n .z (.n .z (.n .z (.n .z (.n .z (.n .z (.n .z (.n .z (.n (.join i_law16_SumParts_1 o_law16_SumParts_1 p_law16_SumParts_1) .z))))))))))))
def r_law16_SumParts : PS := ⟨[(6, .h .b)], [], [.b]⟩
noncomputable def m_law16_SumParts (N : Nat) : (List Int) × (List Int) × (List (List Int)) × (List Int) × Int × Int × Int → Option (Bool) := exF T ct_law16_SumParts N (bodyOf Try.f5) 198 p_law16_SumParts [.ag [.h (.sl (.i .i64)), .h (.sl (.i .i64)), .h (.sl (.sl (.i .i64)))], .h (.sl (.i .i64)), .ag [.h (.i .u8), .h (.i .u8), .h (.i .u8)]] [] [(.sl (.i .i64)), (.sl (.i .i64)), (.sl (.sl (.i .i64))), (.sl (.i .i64)), (.i .u8), (.i .u8), (.i .u8)] r_law16_SumParts
noncomputable def c_law16_SumParts (N : Nat) : Ctr := ⟨5, [.ag [.h (.sl (.i .i64)), .h (.sl (.i .i64)), .h (.sl (.sl (.i .i64)))], .h (.sl (.i .i64)), .ag [.h (.i .u8), .h (.i .u8), .h (.i .u8)]], [], [(.sl (.i .i64)), (.sl (.i .i64)), (.sl (.sl (.i .i64))), (.sl (.i .i64)), (.i .u8), (.i .u8), (.i .u8)], Tup r_law16_SumParts.c, m_law16_SumParts N, fun y _ k => k (resG T (mkPS 198 r_law16_SumParts y) Try.f5.results.toList) (keepH' [] (mkPS 198 r_law16_SumParts y).h), false, true⟩
theorem l_law16_SumParts_1_s (N m : Nat) (n : Int) (a : Int) (b : Int) (c : Int) (all : Int) (f : Int) (x : Int) (i : Int) (g : Int) (y : Int) (h : Int) (z : Int) (k : Int) (t : (List Int)) (t2 : (List Int)) (t3 : (List (List Int))) (s : (List (List Int))) : l_law16_SumParts_1 N (m + 1) (n, a, b, c, all, f, x, i, g, y, h, z, k, t, t2, t3, s) = cond (!(decide (f = (0 : Int))))
   (some (.inl false))
   (cond (!(decide (g = (0 : Int))))
     (some (.inl false))
     (cond (!(decide (h = (0 : Int))))
       (some (.inl false))
       (cond (!(decide (k = (0 : Int))))
         (some (.inl false))
         (cond (!(decide (z = (0 : Int))))
           (some (.inl false))
           (cond (decide (n < i))
             (some (.inl false))
             (cond (!(decide (a = b)))
               (cond (!(decide ((IntKind.wrap .i64 (x + y)) = all)))
                 (some (.inl false))
                 (cond (decide (a = b))
                   (cond (!(decide ((IntKind.wrap .i64 (x + y)) = (0 : Int))))
                     (some (.inl false))
                     (some (.inr (n, (a, (b, (c, (all, (x, (t, (t2, (t3, s))))))))))))
                   (some (.inr (n, (a, (b, (c, (all, (x, (t, (t2, (t3, s)))))))))))))
               (cond (decide (a = b))
                 (cond (!(decide ((IntKind.wrap .i64 (x + y)) = (0 : Int))))
                   (some (.inl false))
                   (some (.inr (n, (a, (b, (c, (all, (x, (t, (t2, (t3, s))))))))))))
                 (some (.inr (n, (a, (b, (c, (all, (x, (t, (t2, (t3, s)))))))))))))))))) := by kernel_rfl
theorem m_law16_SumParts_eq (N : Nat) (t : (List Int)) (t2 : (List Int)) (t3 : (List (List Int))) (weights : (List Int)) (three : Int) (three2 : Int) (three3 : Int) : m_law16_SumParts (N + 1) (t, t2, t3, weights, three, three2, three3) = obind (m_law16_alive N ()) fun z1 =>
  cond (!z1)
   (some false)
   (obind (m_ref14_Great N (t, (t2, (t3, (200 : Int))))) fun z2 =>
    cond z2
     (some true)
     (cond (decide ((200 : Int) < (((List.length weights) : Nat) : Int)))
       (some true)
       (obind (m_sum_Build N (t, (t2, (t3, weights)))) fun z3 =>
        cond (!(decide (z3.1 = (0 : Int))))
         (some (decide ((((List.length z3.2) : Nat) : Int) = (0 : Int))))
         (obind (remI (IntKind.wrap .i64 three) (((List.length t) : Nat) : Int)) fun z4 =>
          obind (remI (IntKind.wrap .i64 three2) (((List.length t) : Nat) : Int)) fun z5 =>
          obind (remI (IntKind.wrap .i64 three3) (((List.length t) : Nat) : Int)) fun z6 =>
          obind (m_sum_Total N (t, (t2, (t3, z3.2)))) fun z7 =>
          obind (m_sum_Between N (t, (t2, (t3, (z3.2, (z4, z5)))))) fun z8 =>
          obind (m_sum_Between N (t, (t2, (t3, (z3.2, (z5, z4)))))) fun z9 =>
          obind (m_sum_Between N (t, (t2, (t3, (z3.2, (z4, z4)))))) fun z10 =>
          obind (l_law16_SumParts_1 N N ((((List.length t) : Nat) : Int), (z4, (z5, (z6, (z7.1, (z7.2, (z8.1, (z8.2.1, (z8.2.2, (z9.1, (z9.2.2, (z10.1, (z10.2.2, (t, (t2, (t3, z3.2))))))))))))))))) fun z11 =>
          (match z11 with
          | .inl zy12 => some zy12
          | .inr zy13 => obind (m_sum_Between N (zy13.2.2.2.2.2.2.1, (zy13.2.2.2.2.2.2.2.1, (zy13.2.2.2.2.2.2.2.2.1, (zy13.2.2.2.2.2.2.2.2.2, (zy13.2.1, zy13.2.2.2.1)))))) fun z14 =>
            obind (m_sum_Between N (zy13.2.2.2.2.2.2.1, (zy13.2.2.2.2.2.2.2.1, (zy13.2.2.2.2.2.2.2.2.1, (zy13.2.2.2.2.2.2.2.2.2, (zy13.2.2.2.1, zy13.2.2.1)))))) fun z15 =>
            cond (!(decide (z14.2.2 = (0 : Int))))
             (some false)
             (cond (!(decide (z15.2.2 = (0 : Int))))
               (some false)
               (obind (remI (IntKind.wrap .i64 ((IntKind.wrap .i64 (zy13.2.2.2.1 - zy13.2.1)) + zy13.1)) zy13.1) fun z16 =>
                obind (remI (IntKind.wrap .i64 ((IntKind.wrap .i64 (zy13.2.2.1 - zy13.2.1)) + zy13.1)) zy13.1) fun z17 =>
                cond (decide (z16 ≤ z17))
                 (some (decide ((IntKind.wrap .i64 (z14.1 + z15.1)) = zy13.2.2.2.2.2.1)))
                 (some (decide ((IntKind.wrap .i64 (z14.1 + z15.1)) = (IntKind.wrap .i64 (zy13.2.2.2.2.2.1 + zy13.2.2.2.2.1)))))))))))) := by kernel_rfl
theorem c_law16_SumParts_ok (N : Nat) : (c_law16_SumParts N).ok Try.prog := exF_ok (T := T) (CT := ct_law16_SumParts) (N := N) (fun M => ⟨tOk, (ctAll_cons (c_law16_alive_ok M) (ctAll_cons (c_ref14_Great_ok M) (ctAll_cons (c_sum_Build_ok M) (ctAll_cons (c_sum_Total_ok M) (ctAll_cons (c_sum_Between_ok M) ctAll_nil))))), mixed⟩) Try.func5 (by kernel_rfl) (by kernel_rfl) p_law16_SumParts [.ag [.h (.sl (.i .i64)), .h (.sl (.i .i64)), .h (.sl (.sl (.i .i64)))], .h (.sl (.i .i64)), .ag [.h (.i .u8), .h (.i .u8), .h (.i .u8)]] [] [(.sl (.i .i64)), (.sl (.i .i64)), (.sl (.sl (.i .i64))), (.sl (.i .i64)), (.i .u8), (.i .u8), (.i .u8)] r_law16_SumParts false true [] (by kernel_rfl) (fun y => by kernel_rfl) (fun _ => ⟨rfl, rfl⟩) (fun y => by kernel_rfl) (m_law16_SumParts N) (fun x => by kernel_rfl)
/-! archipelago/archipelagolaw16.SumLast -/
noncomputable def ct_law16_SumLast (N : Nat) : List Ctr := [c_law16_alive N, c_ref14_Great N, c_sum_Build N, c_sum_Change N, c_sum_Build_o N, c_ref14_Lists N, c_sum_Weights N, c_ref01_Ints N]
def i_law16_SumLast_1 : PS := ⟨[(3, .k (.pt 900 0)), (5, .k (.pt 901 0)), (7, .k (.ow 902)), (9, .k (.ow 903)), (10, .h (.i .i64)), (12, .k (.ow 904)), (13, .h (.i .i64))], [(900, .box 25 [.h (.sl (.i .i64)), .h (.sl (.i .i64)), .h (.sl (.sl (.i .i64)))]), (901, .box 38 [.h (.sl (.sl (.i .i64))), .h (.sl (.i .i64)), .h (.sl (.i .i64))]), (902, .arr 22 (.sl (.i .i64)) false), (903, .arr 22 (.sl (.i .i64)) true), (904, .arr 3 (.i .i64) true)], [(.i .i64), (.i .i64), (.sl (.i .i64)), (.sl (.i .i64)), (.sl (.sl (.i .i64))), (.sl (.sl (.i .i64))), (.sl (.i .i64)), (.sl (.i .i64)), (.sl (.sl (.i .i64))), (.sl (.sl (.i .i64))), (.sl (.i .i64))]⟩
def o_law16_SumLast_1 : List (Exit × PS) := [((.exit 0), ⟨[(3, .k (.pt 900 0)), (7, .k (.ow 901)), (9, .k (.ow 902)), (10, .h (.i .i64)), (12, .k (.ow 903))], [(900, .box 25 [.h (.sl (.i .i64)), .h (.sl (.i .i64)), .h (.sl (.sl (.i .i64)))]), (901, .arr 22 (.sl (.i .i64)) false), (902, .arr 22 (.sl (.i .i64)) true), (903, .arr 3 (.i .i64) true)], [(.i .i64), (.sl (.i .i64)), (.sl (.i .i64)), (.sl (.sl (.i .i64))), (.sl (.sl (.i .i64))), (.sl (.sl (.i .i64))), (.sl (.i .i64))]⟩)]
def p_law16_SumLast_1 : Pl := .z
noncomputable def l_law16_SumLast_1 (N : Nat) : Nat → Int × Int × (List Int) × (List Int) × (List (List Int)) × (List (List Int)) × (List Int) × (List Int) × (List (List Int)) × (List (List Int)) × (List Int) → Option (Int × (List Int) × (List Int) × (List (List Int)) × (List (List Int)) × (List (List Int)) × (List Int)) := loopF (exC T (ct_law16_SumLast N) N (codeAt [1, 1, 1, 1, 1, 1, 1, 0, 1, 0, 0] (bodyOf Try.f6))) 144 i_law16_SumLast_1 o_law16_SumLast_1 p_law16_SumLast_1
def p_law16_SumLast : Pl := (.n .z (.n .z (.n .z (.n .z (.n .z (.n .z (.n .z (.n (.n .z (.n (.loop i_law16_SumLast_1 o_law16_SumLast_1 p_law16_SumLast_1) .z)) .z))))))))
def r_law16_SumLast : PS := ⟨[(6, .h .b)], [], [.b]⟩
noncomputable def m_law16_SumLast (N : Nat) : (List Int) × (List Int) × (List (List Int)) × (List Int) × (List (List Int)) × (List Int) × (List Int) → Option (Bool) := exF T ct_law16_SumLast N (bodyOf Try.f6) 144 p_law16_SumLast [.ag [.h (.sl (.i .i64)), .h (.sl (.i .i64)), .h (.sl (.sl (.i .i64)))], .h (.sl (.i .i64)), .ag [.h (.sl (.sl (.i .i64))), .h (.sl (.i .i64)), .h (.sl (.i .i64))]] [] [(.sl (.i .i64)), (.sl (.i .i64)), (.sl (.sl (.i .i64))), (.sl (.i .i64)), (.sl (.sl (.i .i64))), (.sl (.i .i64)), (.sl (.i .i64))] r_law16_SumLast
noncomputable def c_law16_SumLast (N : Nat) : Ctr := ⟨6, [.ag [.h (.sl (.i .i64)), .h (.sl (.i .i64)), .h (.sl (.sl (.i .i64)))], .h (.sl (.i .i64)), .ag [.h (.sl (.sl (.i .i64))), .h (.sl (.i .i64)), .h (.sl (.i .i64))]], [], [(.sl (.i .i64)), (.sl (.i .i64)), (.sl (.sl (.i .i64))), (.sl (.i .i64)), (.sl (.sl (.i .i64))), (.sl (.i .i64)), (.sl (.i .i64))], Tup r_law16_SumLast.c, m_law16_SumLast N, fun y _ k => k (resG T (mkPS 144 r_law16_SumLast y) Try.f6.results.toList) (keepH' [] (mkPS 144 r_law16_SumLast y).h), false, true⟩
theorem l_law16_SumLast_1_z (N : Nat) (v : Int × Int × (List Int) × (List Int) × (List (List Int)) × (List (List Int)) × (List Int) × (List Int) × (List (List Int)) × (List (List Int)) × (List Int)) : l_law16_SumLast_1 N 0 v = none := by kernel_rfl
theorem l_law16_SumLast_1_s (N m : Nat) (n : Int) (i : Int) (t : (List Int)) (t2 : (List Int)) (t3 : (List (List Int))) (c : (List (List Int))) (c2 : (List Int)) (c3 : (List Int)) (s : (List (List Int))) (u : (List (List Int))) (w : (List Int)) : l_law16_SumLast_1 N (m + 1) (n, i, t, t2, t3, c, c2, c3, s, u, w) = cond (decide (i < (((List.length c2) : Nat) : Int)))
   (obind (nthI c2 i) fun z1 =>
    obind (nthI c3 i) fun z2 =>
    obind (nthI w z1) fun z3 =>
    obind (nthI w z1) fun z4 =>
    (l_law16_SumLast_1 N m (n, ((IntKind.wrap .i64 (i + (1 : Int))), (t, (t2, (t3, (c, (c2, (c3, (s, (u, (List.set w (Int.toNat z1) z2)))))))))))))
   (some (n, (t, (t2, (t3, (s, (u, w))))))) := by kernel_rfl
theorem m_law16_SumLast_eq (N : Nat) (t : (List Int)) (t2 : (List Int)) (t3 : (List (List Int))) (weights : (List Int)) (c : (List (List Int))) (c2 : (List Int)) (c3 : (List Int)) : m_law16_SumLast (N + 1) (t, t2, t3, weights, c, c2, c3) = obind (m_law16_alive N ()) fun z1 =>
  cond (!z1)
   (some false)
   (obind (m_ref14_Great N (t, (t2, (t3, (200 : Int))))) fun z2 =>
    cond z2
     (some true)
     (cond (decide ((200 : Int) < (((List.length weights) : Nat) : Int)))
       (some true)
       (cond (decide ((30 : Int) < (((List.length c2) : Nat) : Int)))
         (some true)
         (cond (!(decide ((((List.length c3) : Nat) : Int) = (((List.length c2) : Nat) : Int))))
           (some true)
           (obind (m_sum_Build N (t, (t2, (t3, weights)))) fun z3 =>
            obind (m_sum_Change N (t, (t2, (t3, (z3.2, (c2, c3)))))) fun z4 =>
            cond (!(decide (z3.1 = (0 : Int))))
             (cond (decide (z4.1 = (0 : Int)))
               (some (decide ((((List.length z4.2.2) : Nat) : Int) = (0 : Int))))
               (some false))
             (cond (!(decide (z4.2.1 = (0 : Int))))
               (cond (decide (z4.1 = (0 : Int)))
                 (some (decide ((((List.length z4.2.2) : Nat) : Int) = (0 : Int))))
                 (some false))
               (obind (appI (8 : Nat) [] weights) fun z5 =>
                obind (l_law16_SumLast_1 N N (z4.1, ((0 : Int), (t, (t2, (t3, (c, (c2, (c3, (z3.2, (z4.2.2, z5))))))))))) fun z6 =>
                obind (m_sum_Build N (z6.2.1, (z6.2.2.1, (z6.2.2.2.1, z6.2.2.2.2.2.2)))) fun z7 =>
                obind (m_sum_Change N (z6.2.1, (z6.2.2.1, (z6.2.2.2.1, (z6.2.2.2.2.2.1, ([], [])))))) fun z8 =>
                cond (decide (z7.1 = (0 : Int)))
                 (cond (decide (z8.2.1 = (0 : Int)))
                   (cond (decide (z8.1 = (0 : Int)))
                     (obind (m_ref14_Lists N (z6.2.2.2.2.2.1, z7.2)) fun z9 =>
                      cond z9
                       (obind (m_ref14_Lists N (z8.2.2, z6.2.2.2.2.2.1)) fun z10 =>
                        cond z10
                         (obind (m_sum_Weights N (z6.2.1, (z6.2.2.1, (z6.2.2.2.1, z6.2.2.2.2.2.1)))) fun z11 =>
                          obind (m_ref01_Ints N (z11, z6.2.2.2.2.2.2)) fun z12 =>
                          cond z12
                           (cond (decide ((0 : Int) < z6.1))
                             (some true)
                             (obind (m_ref14_Lists N (z6.2.2.2.2.2.1, z6.2.2.2.2.1)) fun z13 =>
                              some z13))
                           (some false))
                         (some false))
                       (some false))
                     (some false))
                   (some false))
                 (some false)))))))) := by kernel_rfl
theorem c_law16_SumLast_ok (N : Nat) : (c_law16_SumLast N).ok Try.prog := exF_ok (T := T) (CT := ct_law16_SumLast) (N := N) (fun M => ⟨tOk, (ctAll_cons (c_law16_alive_ok M) (ctAll_cons (c_ref14_Great_ok M) (ctAll_cons (c_sum_Build_ok M) (ctAll_cons (c_sum_Change_ok M) (ctAll_cons (c_sum_Build_o_ok M) (ctAll_cons (c_ref14_Lists_ok M) (ctAll_cons (c_sum_Weights_ok M) (ctAll_cons (c_ref01_Ints_ok M) ctAll_nil)))))))), mixed⟩) Try.func6 (by kernel_rfl) (by kernel_rfl) p_law16_SumLast [.ag [.h (.sl (.i .i64)), .h (.sl (.i .i64)), .h (.sl (.sl (.i .i64)))], .h (.sl (.i .i64)), .ag [.h (.sl (.sl (.i .i64))), .h (.sl (.i .i64)), .h (.sl (.i .i64))]] [] [(.sl (.i .i64)), (.sl (.i .i64)), (.sl (.sl (.i .i64))), (.sl (.i .i64)), (.sl (.sl (.i .i64))), (.sl (.i .i64)), (.sl (.i .i64))] r_law16_SumLast false true [] (by kernel_rfl) (fun y => by kernel_rfl) (fun _ => ⟨rfl, rfl⟩) (fun y => by kernel_rfl) (m_law16_SumLast N) (fun x => by kernel_rfl)
/-! archipelago/archipelagolaw16.SumAdds -/
noncomputable def ct_law16_SumAdds (N : Nat) : List Ctr := [c_law16_alive N, c_ref14_Great N, c_sum_Build N, c_sum_Build_o N]
def i_law16_SumAdds_3 : PS := ⟨[(3, .k (.pt 900 0)), (9, .k (.ow 901)), (11, .k (.ow 902)), (13, .k (.ow 903)), (15, .h (.i .i64)), (16, .h (.i .i64)), (157, .k (.ow 902)), (158, .h (.i .i64)), (160, .h (.sl (.i .i64))), (161, .h (.i .i64)), (162, .k (.ow 903)), (163, .h (.i .i64)), (165, .h (.sl (.i .i64))), (166, .h (.i .i64)), (167, .h .b)], [(900, .box 25 [.h (.sl (.i .i64)), .h (.sl (.i .i64)), .h (.sl (.sl (.i .i64)))]), (901, .arr 22 (.sl (.i .i64)) true), (902, .arr 22 (.sl (.i .i64)) true), (903, .arr 22 (.sl (.i .i64)) true)], [(.i .i64), (.i .i64), (.i .i64), (.sl (.i .i64)), (.i .i64), (.i .i64), (.sl (.i .i64)), (.i .i64), .b, (.sl (.i .i64)), (.sl (.i .i64)), (.sl (.sl (.i .i64))), (.sl (.sl (.i .i64))), (.sl (.sl (.i .i64))), (.sl (.sl (.i .i64)))]⟩
def o_law16_SumAdds_3 : List (Exit × PS) := [((.exit 4), ⟨[(3, .k (.pt 900 0)), (9, .k (.ow 901)), (11, .k (.ow 902)), (13, .k (.ow 903)), (15, .h (.i .i64)), (157, .k (.ow 902)), (158, .h (.i .i64)), (160, .h (.sl (.i .i64))), (161, .h (.i .i64)), (162, .k (.ow 903)), (163, .h (.i .i64)), (165, .h (.sl (.i .i64))), (166, .h (.i .i64)), (167, .h .b)], [(900, .box 25 [.h (.sl (.i .i64)), .h (.sl (.i .i64)), .h (.sl (.sl (.i .i64)))]), (901, .arr 22 (.sl (.i .i64)) true), (902, .arr 22 (.sl (.i .i64)) true), (903, .arr 22 (.sl (.i .i64)) true)], [(.i .i64), (.i .i64), (.sl (.i .i64)), (.i .i64), (.i .i64), (.sl (.i .i64)), (.i .i64), .b, (.sl (.i .i64)), (.sl (.i .i64)), (.sl (.sl (.i .i64))), (.sl (.sl (.i .i64))), (.sl (.sl (.i .i64))), (.sl (.sl (.i .i64)))]⟩), (.ret, ⟨[(6, .h .b)], [], [.b]⟩)]
def p_law16_SumAdds_3 : Pl := .z
noncomputable def l_law16_SumAdds_3 (N : Nat) : Nat → Int × Int × Int × (List Int) × Int × Int × (List Int) × Int × Bool × (List Int) × (List Int) × (List (List Int)) × (List (List Int)) × (List (List Int)) × (List (List Int)) → Option ((Int × Int × (List Int) × Int × Int × (List Int) × Int × Bool × (List Int) × (List Int) × (List (List Int)) × (List (List Int)) × (List (List Int)) × (List (List Int))) ⊕ (Bool)) := loopF (exC T (ct_law16_SumAdds N) N (codeAt [1, 1, 1, 1, 1, 1, 1, 1, 1, 1, 0, 1, 0, 0, 1, 0, 0, 1, 1, 0, 0] (bodyOf Try.f7))) 207 i_law16_SumAdds_3 o_law16_SumAdds_3 p_law16_SumAdds_3
def i_law16_SumAdds_2 : PS := ⟨[(3, .k (.pt 900 0)), (9, .k (.ow 901)), (11, .k (.ow 902)), (13, .k (.ow 903)), (15, .h (.i .i64))], [(900, .box 25 [.h (.sl (.i .i64)), .h (.sl (.i .i64)), .h (.sl (.sl (.i .i64)))]), (901, .arr 22 (.sl (.i .i64)) true), (902, .arr 22 (.sl (.i .i64)) true), (903, .arr 22 (.sl (.i .i64)) true)], [(.i .i64), (.sl (.i .i64)), (.sl (.i .i64)), (.sl (.sl (.i .i64))), (.sl (.sl (.i .i64))), (.sl (.sl (.i .i64))), (.sl (.sl (.i .i64)))]⟩
def o_law16_SumAdds_2 : List (Exit × PS) := [((.exit 2), ⟨[(3, .k (.pt 900 0)), (13, .k (.ow 901))], [(900, .box 25 [.h (.sl (.i .i64)), .h (.sl (.i .i64)), .h (.sl (.sl (.i .i64)))]), (901, .arr 22 (.sl (.i .i64)) true)], [(.sl (.i .i64)), (.sl (.i .i64)), (.sl (.sl (.i .i64))), (.sl (.sl (.i .i64)))]⟩), (.ret, ⟨[(6, .h .b)], [], [.b]⟩)]
def p_law16_SumAdds_2 : Pl := (.n .z (.n (.n (.n .z (.n .z (.n (.loop i_law16_SumAdds_3 o_law16_SumAdds_3 p_law16_SumAdds_3) .z))) .z) .z))
noncomputable def l_law16_SumAdds_2 (N : Nat) : Nat → Int × (List Int) × (List Int) × (List (List Int)) × (List (List Int)) × (List (List Int)) × (List (List Int)) → Option (((List Int) × (List Int) × (List (List Int)) × (List (List Int))) ⊕ (Bool)) := loopF (exC T (ct_law16_SumAdds N) N (codeAt [1, 1, 1, 1, 1, 1, 1, 1, 1, 1, 0, 1, 0, 0] (bodyOf Try.f7))) 207 i_law16_SumAdds_2 o_law16_SumAdds_2 p_law16_SumAdds_2
def i_law16_SumAdds_1 : PS := ⟨[(1, .h (.sl (.i .i64))), (2, .h (.sl (.i .i64))), (3, .k (.pt 900 0)), (7, .k (.ow 901)), (8, .h (.i .i64))], [(900, .box 25 [.h (.sl (.i .i64)), .h (.sl (.i .i64)), .h (.sl (.sl (.i .i64)))]), (901, .arr 3 (.i .i64) true)], [(.sl (.i .i64)), (.sl (.i .i64)), (.i .i64), (.sl (.i .i64)), (.sl (.i .i64)), (.sl (.sl (.i .i64))), (.sl (.i .i64))]⟩
def o_law16_SumAdds_1 : List (Exit × PS) := [((.exit 0), ⟨[(1, .h (.sl (.i .i64))), (2, .h (.sl (.i .i64))), (3, .k (.pt 900 0)), (7, .k (.ow 901))], [(900, .box 25 [.h (.sl (.i .i64)), .h (.sl (.i .i64)), .h (.sl (.sl (.i .i64)))]), (901, .arr 3 (.i .i64) true)], [(.sl (.i .i64)), (.sl (.i .i64)), (.sl (.i .i64)), (.sl (.i .i64)), (.sl (.sl (.i .i64))), (.sl (.i .i64))]⟩), (.ret, ⟨[(6, .h .b)], [], [.b]⟩)]
def p_law16_SumAdds_1 : Pl := .z
noncomputable def l_law16_SumAdds_1 (N : Nat) : Nat → (List Int) × (List Int) × Int × (List Int) × (List Int) × (List (List Int)) × (List Int) → Option (((List Int) × (List Int) × (List Int) × (List Int) × (List (List Int)) × (List Int)) ⊕ (Bool)) := loopF (exC T (ct_law16_SumAdds N) N (codeAt [1, 1, 1, 1, 0, 1, 0, 0] (bodyOf Try.f7))) 207 i_law16_SumAdds_1 o_law16_SumAdds_1 p_law16_SumAdds_1
def p_law16_SumAdds : Pl := (.n .z (.n .z (.n .z (.n .z (.n (.n .z (.n (.loop i_law16_SumAdds_1 o_law16_SumAdds_1 p_law16_SumAdds_1) .z)) (.n .z (.n .z (.n .z (.n .z (.n .z (.n (.n .z (.n (.loop i_law16_SumAdds_2 o_law16_SumAdds_2 p_law16_SumAdds_2) .z)) .z)))))))))))
def r_law16_SumAdds : PS := ⟨[(6, .h .b)], [], [.b]⟩
noncomputable def m_law16_SumAdds (N : Nat) : (List Int) × (List Int) × (List (List Int)) × (List Int) × (List Int) → Option (Bool) := exF T ct_law16_SumAdds N (bodyOf Try.f7) 207 p_law16_SumAdds [.ag [.h (.sl (.i .i64)), .h (.sl (.i .i64)), .h (.sl (.sl (.i .i64)))], .h (.sl (.i .i64)), .h (.sl (.i .i64))] [] [(.sl (.i .i64)), (.sl (.i .i64)), (.sl (.sl (.i .i64))), (.sl (.i .i64)), (.sl (.i .i64))] r_law16_SumAdds
noncomputable def c_law16_SumAdds (N : Nat) : Ctr := ⟨7, [.ag [.h (.sl (.i .i64)), .h (.sl (.i .i64)), .h (.sl (.sl (.i .i64)))], .h (.sl (.i .i64)), .h (.sl (.i .i64))], [], [(.sl (.i .i64)), (.sl (.i .i64)), (.sl (.sl (.i .i64))), (.sl (.i .i64)), (.sl (.i .i64))], Tup r_law16_SumAdds.c, m_law16_SumAdds N, fun y _ k => k (resG T (mkPS 207 r_law16_SumAdds y) Try.f7.results.toList) (keepH' [] (mkPS 207 r_law16_SumAdds y).h), false, true⟩
theorem l_law16_SumAdds_3_z (N : Nat) (v : Int × Int × Int × (List Int) × Int × Int × (List Int) × Int × Bool × (List Int) × (List Int) × (List (List Int)) × (List (List Int)) × (List (List Int)) × (List (List Int))) : l_law16_SumAdds_3 N 0 v = none := by kernel_rfl
theorem l_law16_SumAdds_3_s (N m : Nat) (i : Int) (h : Int) (v158 : Int) (v160 : (List Int)) (v161 : Int) (v163 : Int) (v165 : (List Int)) (v166 : Int) (v167 : Bool) (t : (List Int)) (t2 : (List Int)) (t3 : (List (List Int))) (a : (List (List Int))) (b : (List (List Int))) (c : (List (List Int))) : l_law16_SumAdds_3 N (m + 1) (i, h, v158, v160, v161, v163, v165, v166, v167, t, t2, t3, a, b, c) = obind (nthI c i) fun z1 =>
  obind (nthI c i) fun z2 =>
  cond (decide (h < (((List.length z2) : Nat) : Int)))
   (obind (nthI c i) fun z3 =>
    obind (nthI c i) fun z4 =>
    obind (nthI z4 h) fun z5 =>
    obind (nthI a i) fun z6 =>
    obind (nthI a i) fun z7 =>
    obind (nthI z7 h) fun z8 =>
    obind (nthI b i) fun z9 =>
    obind (nthI b i) fun z10 =>
    obind (nthI z10 h) fun z11 =>
    cond (!(decide (z5 = (IntKind.wrap .i64 (z8 + z11)))))
     (some (.inr false))
     ((l_law16_SumAdds_3 N m (i, ((IntKind.wrap .i64 (h + (1 : Int))), (v158, (v160, (v161, (v163, (v165, (v166, (v167, (t, (t2, (t3, (a, (b, c)))))))))))))))))
   (some (.inl (i, (v158, (v160, (v161, (v163, (v165, (v166, (v167, (t, (t2, (t3, (a, (b, c))))))))))))))) := by kernel_rfl
theorem l_law16_SumAdds_2_z (N : Nat) (v : Int × (List Int) × (List Int) × (List (List Int)) × (List (List Int)) × (List (List Int)) × (List (List Int))) : l_law16_SumAdds_2 N 0 v = none := by kernel_rfl
theorem l_law16_SumAdds_2_s (N m : Nat) (i : Int) (t : (List Int)) (t2 : (List Int)) (t3 : (List (List Int))) (a : (List (List Int))) (b : (List (List Int))) (c : (List (List Int))) : l_law16_SumAdds_2 N (m + 1) (i, t, t2, t3, a, b, c) = cond (decide (i < (((List.length c) : Nat) : Int)))
   (obind (nthI a i) fun z1 =>
    obind (nthI a i) fun z2 =>
    obind (nthI c i) fun z3 =>
    obind (nthI c i) fun z4 =>
    cond (!(decide ((((List.length z2) : Nat) : Int) = (((List.length z4) : Nat) : Int))))
     (some (.inr false))
     (obind (nthI b i) fun z5 =>
      obind (nthI b i) fun z6 =>
      obind (nthI c i) fun z7 =>
      obind (nthI c i) fun z8 =>
      cond (!(decide ((((List.length z6) : Nat) : Int) = (((List.length z8) : Nat) : Int))))
       (some (.inr false))
       (obind (l_law16_SumAdds_3 N N (i, ((0 : Int), (i, (z6, ((((List.length z6) : Nat) : Int), (i, (z8, ((((List.length z8) : Nat) : Int), ((!(decide ((((List.length z6) : Nat) : Int) = (((List.length z8) : Nat) : Int)))), (t, (t2, (t3, (a, (b, c))))))))))))))) fun z9 =>
        (match z9 with
        | .inl zy10 => (l_law16_SumAdds_2 N m ((IntKind.wrap .i64 (zy10.1 + (1 : Int))), (zy10.2.2.2.2.2.2.2.2.1, (zy10.2.2.2.2.2.2.2.2.2.1, (zy10.2.2.2.2.2.2.2.2.2.2.1, (zy10.2.2.2.2.2.2.2.2.2.2.2.1, (zy10.2.2.2.2.2.2.2.2.2.2.2.2.1, zy10.2.2.2.2.2.2.2.2.2.2.2.2.2)))))))
        | .inr zy11 => some (.inr zy11)))))
   (some (.inl (t, (t2, (t3, c))))) := by kernel_rfl
theorem l_law16_SumAdds_1_z (N : Nat) (v : (List Int) × (List Int) × Int × (List Int) × (List Int) × (List (List Int)) × (List Int)) : l_law16_SumAdds_1 N 0 v = none := by kernel_rfl
theorem l_law16_SumAdds_1_s (N m : Nat) (v : (List Int)) (w : (List Int)) (i : Int) (t : (List Int)) (t2 : (List Int)) (t3 : (List (List Int))) (x : (List Int)) : l_law16_SumAdds_1 N (m + 1) (v, w, i, t, t2, t3, x) = cond (decide (i < (((List.length v) : Nat) : Int)))
   (obind (nthI v i) fun z1 =>
    cond (decide (z1 < (-(536870912 : Int))))
     (some (.inr true))
     (obind (nthI v i) fun z2 =>
      cond (decide ((536870912 : Int) < z2))
       (some (.inr true))
       (obind (nthI w i) fun z3 =>
        cond (decide (z3 < (-(536870912 : Int))))
         (some (.inr true))
         (obind (nthI w i) fun z4 =>
          cond (decide ((536870912 : Int) < z4))
           (some (.inr true))
           (obind (nthI v i) fun z5 =>
            obind (nthI w i) fun z6 =>
            obind (nthI x i) fun z7 =>
            obind (nthI x i) fun z8 =>
            (l_law16_SumAdds_1 N m (v, (w, ((IntKind.wrap .i64 (i + (1 : Int))), (t, (t2, (t3, (List.set x (Int.toNat i) (IntKind.wrap .i64 (z5 + z6)))))))))))))))
   (some (.inl (v, (w, (t, (t2, (t3, x))))))) := by kernel_rfl
theorem m_law16_SumAdds_eq (N : Nat) (t : (List Int)) (t2 : (List Int)) (t3 : (List (List Int))) (v : (List Int)) (w : (List Int)) : m_law16_SumAdds (N + 1) (t, t2, t3, v, w) = obind (m_law16_alive N ()) fun z1 =>
  cond (!z1)
   (some false)
   (obind (m_ref14_Great N (t, (t2, (t3, (200 : Int))))) fun z2 =>
    cond z2
     (some true)
     (cond (decide ((200 : Int) < (((List.length v) : Nat) : Int)))
       (some true)
       (cond (!(decide ((((List.length w) : Nat) : Int) = (((List.length v) : Nat) : Int))))
         (some true)
         (obind (makI (((List.length v) : Nat) : Int) (8 : Nat)) fun z3 =>
          obind (l_law16_SumAdds_1 N N (v, (w, ((0 : Int), (t, (t2, (t3, (List.replicate z3 (0 : Int))))))))) fun z4 =>
          (match z4 with
          | .inl zy5 => obind (m_sum_Build N (zy5.2.2.1, (zy5.2.2.2.1, (zy5.2.2.2.2.1, zy5.1)))) fun z6 =>
            obind (m_sum_Build N (zy5.2.2.1, (zy5.2.2.2.1, (zy5.2.2.2.2.1, zy5.2.1)))) fun z7 =>
            obind (m_sum_Build N (zy5.2.2.1, (zy5.2.2.2.1, (zy5.2.2.2.2.1, zy5.2.2.2.2.2)))) fun z8 =>
            cond (!(decide (z6.1 = (0 : Int))))
             (cond (decide (z6.1 = z7.1))
               (cond (decide (z7.1 = z8.1))
                 (some (decide ((IntKind.wrap .i64 ((IntKind.wrap .i64 ((((List.length z6.2) : Nat) : Int) + (((List.length z7.2) : Nat) : Int))) + (((List.length z8.2) : Nat) : Int))) = (0 : Int))))
                 (some false))
               (some false))
             (cond (!(decide (z7.1 = (0 : Int))))
               (cond (decide (z6.1 = z7.1))
                 (cond (decide (z7.1 = z8.1))
                   (some (decide ((IntKind.wrap .i64 ((IntKind.wrap .i64 ((((List.length z6.2) : Nat) : Int) + (((List.length z7.2) : Nat) : Int))) + (((List.length z8.2) : Nat) : Int))) = (0 : Int))))
                   (some false))
                 (some false))
               (cond (!(decide (z8.1 = (0 : Int))))
                 (cond (decide (z6.1 = z7.1))
                   (cond (decide (z7.1 = z8.1))
                     (some (decide ((IntKind.wrap .i64 ((IntKind.wrap .i64 ((((List.length z6.2) : Nat) : Int) + (((List.length z7.2) : Nat) : Int))) + (((List.length z8.2) : Nat) : Int))) = (0 : Int))))
                     (some false))
                   (some false))
                 (cond (!(decide ((((List.length z6.2) : Nat) : Int) = (((List.length z8.2) : Nat) : Int))))
                   (some false)
                   (cond (!(decide ((((List.length z7.2) : Nat) : Int) = (((List.length z8.2) : Nat) : Int))))
                     (some false)
                     (obind (l_law16_SumAdds_2 N N ((0 : Int), (zy5.2.2.1, (zy5.2.2.2.1, (zy5.2.2.2.2.1, (z6.2, (z7.2, z8.2))))))) fun z9 =>
                      (match z9 with
                      | .inl zy10 => some (decide ((((List.length zy10.2.2.2) : Nat) : Int) = (((List.length zy10.1) : Nat) : Int)))
                      | .inr zy11 => some zy11))))))
          | .inr zy12 => some zy12))))) := by kernel_rfl
theorem c_law16_SumAdds_ok (N : Nat) : (c_law16_SumAdds N).ok Try.prog := exF_ok (T := T) (CT := ct_law16_SumAdds) (N := N) (fun M => ⟨tOk, (ctAll_cons (c_law16_alive_ok M) (ctAll_cons (c_ref14_Great_ok M) (ctAll_cons (c_sum_Build_ok M) (ctAll_cons (c_sum_Build_o_ok M) ctAll_nil)))), mixed⟩) Try.func7 (by kernel_rfl) (by kernel_rfl) p_law16_SumAdds [.ag [.h (.sl (.i .i64)), .h (.sl (.i .i64)), .h (.sl (.sl (.i .i64)))], .h (.sl (.i .i64)), .h (.sl (.i .i64))] [] [(.sl (.i .i64)), (.sl (.i .i64)), (.sl (.sl (.i .i64))), (.sl (.i .i64)), (.sl (.i .i64))] r_law16_SumAdds false true [] (by kernel_rfl) (fun y => by kernel_rfl) (fun _ => ⟨rfl, rfl⟩) (fun y => by kernel_rfl) (m_law16_SumAdds N) (fun x => by kernel_rfl)
end Go.Proofs.Ytiblkkkgajklfaa
