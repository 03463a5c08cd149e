/- The functions of this seat, reckoned: of each what it computes, as a tree, and its contract (printed by wip/tool/plan.sh). -/
import Derived.Test.YtggnolfcgaglfaaHand
set_option linter.unusedVariables false
set_option maxRecDepth 100000
namespace Go.Proofs.Ytggnolfcgaglfaa
open Go Go.RowKit
/-! archipelago/archipelagoref13.Place -/
noncomputable def ct_ref13_Place (N : Nat) : List Ctr := []
def i_ref13_Place_1 : PS := ⟨[(0, .h (.sl (.i .i64))), (1, .h (.i .i64)), (5, .h (.i .i64))], [], [(.sl (.i .i64)), (.i .i64), (.i .i64)]⟩
def o_ref13_Place_1 : List (Exit × PS) := [((.exit 0), ⟨[], [], []⟩), (.ret, ⟨[(4, .h (.i .i64))], [], [(.i .i64)]⟩)]
def p_ref13_Place_1 : Pl := .z
noncomputable def l_ref13_Place_1 (N : Nat) : Nat → (List Int) × Int × Int → Option ((Unit) ⊕ (Int)) := loopF (exC T (ct_ref13_Place N) N (codeAt [1, 0, 1, 0, 0] (bodyOf Try.f40))) 19 i_ref13_Place_1 o_ref13_Place_1 p_ref13_Place_1
def p_ref13_Place : Pl := (.n .z (.n (.n .z (.n (.loop i_ref13_Place_1 o_ref13_Place_1 p_ref13_Place_1) .z)) .z))
def r_ref13_Place : PS := ⟨[(4, .h (.i .i64))], [], [(.i .i64)]⟩
noncomputable def m_ref13_Place (N : Nat) : (List Int) × Int → Option (Int) := exF T ct_ref13_Place N (bodyOf Try.f40) 19 p_ref13_Place [.h (.sl (.i .i64)), .h (.i .i64)] [] [(.sl (.i .i64)), (.i .i64)] r_ref13_Place
noncomputable def c_ref13_Place (N : Nat) : Ctr := ⟨40, [.h (.sl (.i .i64)), .h (.i .i64)], [], [(.sl (.i .i64)), (.i .i64)], Tup r_ref13_Place.c, m_ref13_Place N, fun y _ k => k (resG T (mkPS 19 r_ref13_Place y) Try.f40.results.toList) (keepH' [] (mkPS 19 r_ref13_Place y).h), false, true⟩
theorem l_ref13_Place_1_z (N : Nat) (v : (List Int) × Int × Int) : l_ref13_Place_1 N 0 v = none := by kernel_rfl
theorem l_ref13_Place_1_s (N m : Nat) (l : (List Int)) (token : Int) (i : Int) : l_ref13_Place_1 N (m + 1) (l, token, i) = cond (decide (i < (((List.length l) : Nat) : Int)))
   (obind (nthI l i) fun z1 =>
    cond (decide (z1 = token))
     (some (.inr i))
     ((l_ref13_Place_1 N m (l, (token, (IntKind.wrap .i64 (i + (1 : Int))))))))
   (some (.inl ())) := by kernel_rfl
theorem m_ref13_Place_eq (N : Nat) (l : (List Int)) (token : Int) : m_ref13_Place (N + 1) (l, token) = obind (l_ref13_Place_1 N N (l, (token, (0 : Int)))) fun z1 =>
  (match z1 with
  | .inl zy2 => some (-(1 : Int))
  | .inr zy3 => some zy3) := by kernel_rfl
theorem c_ref13_Place_ok (N : Nat) : (c_ref13_Place N).ok Try.prog := exF_ok (T := T) (CT := ct_ref13_Place) (N := N) (fun M => ⟨tOk, ctAll_nil, mixed⟩) Try.func40 (by kernel_rfl) (by kernel_rfl) p_ref13_Place [.h (.sl (.i .i64)), .h (.i .i64)] [] [(.sl (.i .i64)), (.i .i64)] r_ref13_Place false true [] (by kernel_rfl) (fun y => by kernel_rfl) (fun _ => ⟨rfl, rfl⟩) (fun y => by kernel_rfl) (m_ref13_Place N) (fun x => by kernel_rfl)
/-! archipelago/archipelagoref13.Right -/
noncomputable def ct_ref13_Right (N : Nat) : List Ctr := [c_ref13_Place N]
def i_ref13_Right_1 : PS := ⟨[(0, .h (.sl (.i .i64))), (3, .h (.i .i64))], [], [(.sl (.i .i64)), (.i .i64)]⟩
def o_ref13_Right_1 : List (Exit × PS) := [((.exit 0), ⟨[], [], []⟩), (.ret, ⟨[(2, .h .b)], [], [.b]⟩)]
def p_ref13_Right_1 : Pl := .z
noncomputable def l_ref13_Right_1 (N : Nat) : Nat → (List Int) × Int → Option ((Unit) ⊕ (Bool)) := loopF (exC T (ct_ref13_Right N) N (codeAt [1, 1, 0, 1, 0, 0] (bodyOf Try.f43))) 36 i_ref13_Right_1 o_ref13_Right_1 p_ref13_Right_1
def p_ref13_Right : Pl := (.n .z (.n .z (.n (.n .z (.n (.loop i_ref13_Right_1 o_ref13_Right_1 p_ref13_Right_1) .z)) .z)))
def r_ref13_Right : PS := ⟨[(2, .h .b)], [], [.b]⟩
noncomputable def m_ref13_Right (N : Nat) : (List Int) → Option (Bool) := exF T ct_ref13_Right N (bodyOf Try.f43) 36 p_ref13_Right [.h (.sl (.i .i64))] [] [(.sl (.i .i64))] r_ref13_Right
noncomputable def c_ref13_Right (N : Nat) : Ctr := ⟨43, [.h (.sl (.i .i64))], [], [(.sl (.i .i64))], Tup r_ref13_Right.c, m_ref13_Right N, fun y _ k => k (resG T (mkPS 36 r_ref13_Right y) Try.f43.results.toList) (keepH' [] (mkPS 36 r_ref13_Right y).h), false, true⟩
theorem l_ref13_Right_1_z (N : Nat) (v : (List Int) × Int) : l_ref13_Right_1 N 0 v = none := by kernel_rfl
theorem l_ref13_Right_1_s (N m : Nat) (l : (List Int)) (i : Int) : l_ref13_Right_1 N (m + 1) (l, i) = cond (decide (i < (((List.length l) : Nat) : Int)))
   (obind (nthI l i) fun z1 =>
    cond (decide (z1 < (0 : Int)))
     (some (.inr false))
     (obind (nthI l i) fun z2 =>
      cond (decide ((10000 : Int) < z2))
       (some (.inr false))
       (obind (subI l (0 : Int) i) fun z3 =>
        obind (nthI l i) fun z4 =>
        obind (m_ref13_Place N (z3, z4)) fun z5 =>
        cond (decide ((0 : Int) ≤ z5))
         (some (.inr false))
         ((l_ref13_Right_1 N m (l, (IntKind.wrap .i64 (i + (1 : Int)))))))))
   (some (.inl ())) := by kernel_rfl
theorem m_ref13_Right_eq (N : Nat) (l : (List Int)) : m_ref13_Right (N + 1) (l) = cond (decide ((1000 : Int) < (((List.length l) : Nat) : Int)))
   (some false)
   (obind (l_ref13_Right_1 N N (l, (0 : Int))) fun z1 =>
    (match z1 with
    | .inl zy2 => some true
    | .inr zy3 => some zy3)) := by kernel_rfl
theorem c_ref13_Right_ok (N : Nat) : (c_ref13_Right N).ok Try.prog := exF_ok (T := T) (CT := ct_ref13_Right) (N := N) (fun M => ⟨tOk, (ctAll_cons (c_ref13_Place_ok M) ctAll_nil), mixed⟩) Try.func43 (by kernel_rfl) (by kernel_rfl) p_ref13_Right [.h (.sl (.i .i64))] [] [(.sl (.i .i64))] r_ref13_Right false true [] (by kernel_rfl) (fun y => by kernel_rfl) (fun _ => ⟨rfl, rfl⟩) (fun y => by kernel_rfl) (m_ref13_Right N) (fun x => by kernel_rfl)
/-! archipelago/archipelagoref14.Build -/
noncomputable def ct_ref14_Build (N : Nat) : List Ctr := [c_ref13_Right N]
def i_ref14_Build_4 : PS := ⟨[(1, .h (.sl (.i .i64))), (4, .k (.pt 900 0)), (6, .h (.i .i64)), (8, .k (.pt 901 0)), (9, .h (.i .i64)), (10, .k (.ow 904)), (11, .h (.i .i64)), (12, .h (.i .i64))], [(900, .box 25 [.k .nil, .k .nil, .k .nil]), (901, .box 25 [.k (.ow 902), .k (.ow 903), .k (.ow 905)]), (904, .arr 3 (.i .i64) true), (902, .arr 3 (.i .i64) true), (903, .arr 3 (.i .i64) true), (905, .arr 22 (.sl (.i .i64)) true)], [(.sl (.i .i64)), (.i .i64), (.i .i64), (.i .i64), (.i .i64), (.sl (.i .i64)), (.sl (.i .i64)), (.sl (.i .i64)), (.sl (.sl (.i .i64)))]⟩
def o_ref14_Build_4 : List (Exit × PS) := [((.exit 6), ⟨[(1, .h (.sl (.i .i64))), (4, .k (.pt 900 0)), (6, .h (.i .i64)), (8, .k (.pt 901 0)), (9, .h (.i .i64)), (10, .k (.ow 902)), (11, .h (.i .i64)), (12, .h (.i .i64))], [(900, .box 25 [.k .nil, .k .nil, .k .nil]), (901, .box 25 [.k (.ow 903), .k (.ow 904), .k (.ow 905)]), (902, .arr 3 (.i .i64) true), (903, .arr 3 (.i .i64) true), (904, .arr 3 (.i .i64) true), (905, .arr 22 (.sl (.i .i64)) true)], [(.sl (.i .i64)), (.i .i64), (.i .i64), (.i .i64), (.i .i64), (.sl (.i .i64)), (.sl (.i .i64)), (.sl (.i .i64)), (.sl (.sl (.i .i64)))]⟩)]
def p_ref14_Build_4 : Pl := .z
noncomputable def l_ref14_Build_4 (N : Nat) : Nat → (List Int) × Int × Int × Int × Int × (List Int) × (List Int) × (List Int) × (List (List Int)) → Option ((List Int) × Int × Int × Int × Int × (List Int) × (List Int) × (List Int) × (List (List Int))) := loopF (exC T (ct_ref14_Build N) N (codeAt [1, 1, 1, 1, 1, 0, 1, 0, 0, 1, 0, 0, 1, 0, 1, 0, 0, 1, 0, 0, 1, 0, 0, 0] (bodyOf Try.f26))) 94 i_ref14_Build_4 o_ref14_Build_4 p_ref14_Build_4
def i_ref14_Build_3 : PS := ⟨[(1, .h (.sl (.i .i64))), (4, .k (.pt 900 0)), (6, .h (.i .i64)), (8, .k (.pt 901 0)), (9, .h (.i .i64)), (10, .k (.ow 904)), (11, .h (.i .i64))], [(900, .box 25 [.k .nil, .k .nil, .k .nil]), (901, .box 25 [.k (.ow 902), .k (.ow 903), .k (.ow 905)]), (904, .arr 3 (.i .i64) true), (902, .arr 3 (.i .i64) true), (903, .arr 3 (.i .i64) true), (905, .arr 22 (.sl (.i .i64)) true)], [(.sl (.i .i64)), (.i .i64), (.i .i64), (.i .i64), (.sl (.i .i64)), (.sl (.i .i64)), (.sl (.i .i64)), (.sl (.sl (.i .i64)))]⟩
def o_ref14_Build_3 : List (Exit × PS) := [((.exit 4), ⟨[(1, .h (.sl (.i .i64))), (4, .k (.pt 900 0)), (6, .h (.i .i64)), (8, .k (.pt 901 0)), (9, .h (.i .i64)), (10, .k (.ow 902))], [(900, .box 25 [.k .nil, .k .nil, .k .nil]), (901, .box 25 [.k (.ow 903), .k (.ow 904), .k (.ow 905)]), (902, .arr 3 (.i .i64) true), (903, .arr 3 (.i .i64) true), (904, .arr 3 (.i .i64) true), (905, .arr 22 (.sl (.i .i64)) true)], [(.sl (.i .i64)), (.i .i64), (.i .i64), (.sl (.i .i64)), (.sl (.i .i64)), (.sl (.i .i64)), (.sl (.sl (.i .i64)))]⟩)]
def p_ref14_Build_3 : Pl := (.n .z (.n (.n (.n .z (.n (.n (.loop i_ref14_Build_4 o_ref14_Build_4 p_ref14_Build_4) .z) .z)) .z) .z))
noncomputable def l_ref14_Build_3 (N : Nat) : Nat → (List Int) × Int × Int × Int × (List Int) × (List Int) × (List Int) × (List (List Int)) → Option ((List Int) × Int × Int × (List Int) × (List Int) × (List Int) × (List (List Int))) := loopF (exC T (ct_ref14_Build N) N (codeAt [1, 1, 1, 1, 1, 0, 1, 0, 0, 1, 0, 0, 1, 0, 1, 0, 0] (bodyOf Try.f26))) 94 i_ref14_Build_3 o_ref14_Build_3 p_ref14_Build_3
def i_ref14_Build_2 : PS := ⟨[(1, .h (.sl (.i .i64))), (4, .k (.pt 900 0)), (6, .h (.i .i64)), (8, .k (.pt 901 0)), (9, .h (.i .i64))], [(900, .box 25 [.k .nil, .k .nil, .k .nil]), (901, .box 25 [.k (.ow 902), .k (.ow 903), .k (.ow 904)]), (902, .arr 3 (.i .i64) true), (903, .arr 3 (.i .i64) true), (904, .arr 22 (.sl (.i .i64)) true)], [(.sl (.i .i64)), (.i .i64), (.i .i64), (.sl (.i .i64)), (.sl (.i .i64)), (.sl (.sl (.i .i64)))]⟩
def o_ref14_Build_2 : List (Exit × PS) := [((.exit 2), ⟨[(4, .k (.pt 900 0)), (8, .k (.pt 901 0))], [(900, .box 25 [.k .nil, .k .nil, .k .nil]), (901, .box 25 [.k (.ow 902), .k (.ow 903), .k (.ow 904)]), (902, .arr 3 (.i .i64) true), (903, .arr 3 (.i .i64) true), (904, .arr 22 (.sl (.i .i64)) true)], [(.sl (.i .i64)), (.sl (.i .i64)), (.sl (.sl (.i .i64)))]⟩)]
def p_ref14_Build_2 : Pl := (.n .z (.n (.n (.n .z (.n (.n .z (.n (.loop i_ref14_Build_3 o_ref14_Build_3 p_ref14_Build_3) .z)) .z)) .z) .z))
noncomputable def l_ref14_Build_2 (N : Nat) : Nat → (List Int) × Int × Int × (List Int) × (List Int) × (List (List Int)) → Option ((List Int) × (List Int) × (List (List Int))) := loopF (exC T (ct_ref14_Build N) N (codeAt [1, 1, 1, 1, 1, 0, 1, 0, 0] (bodyOf Try.f26))) 94 i_ref14_Build_2 o_ref14_Build_2 p_ref14_Build_2
def i_ref14_Build_1 : PS := ⟨[(0, .h (.sl (.i .i64))), (1, .h (.sl (.i .i64))), (4, .k (.pt 900 0)), (6, .h (.i .i64)), (7, .h (.i .i64))], [(900, .box 25 [.k .nil, .k .nil, .k .nil])], [(.sl (.i .i64)), (.sl (.i .i64)), (.i .i64), (.i .i64)]⟩
def o_ref14_Build_1 : List (Exit × PS) := [((.exit 0), ⟨[(0, .h (.sl (.i .i64))), (1, .h (.sl (.i .i64))), (4, .k (.pt 900 0)), (6, .h (.i .i64))], [(900, .box 25 [.k .nil, .k .nil, .k .nil])], [(.sl (.i .i64)), (.sl (.i .i64)), (.i .i64)]⟩), (.ret, ⟨[(4, .k (.pt 900 0)), (5, .h (.i .i64))], [(900, .box 25 [.k .nil, .k .nil, .k .nil])], [(.i .i64)]⟩)]
def p_ref14_Build_1 : Pl := .z
noncomputable def l_ref14_Build_1 (N : Nat) : Nat → (List Int) × (List Int) × Int × Int → Option (((List Int) × (List Int) × Int) ⊕ (Int)) := loopF (exC T (ct_ref14_Build N) N (codeAt [1, 1, 1, 0, 1, 0, 0] (bodyOf Try.f26))) 94 i_ref14_Build_1 o_ref14_Build_1 p_ref14_Build_1
def p_ref14_Build : Pl := (.n .z (.n .z (.n .z (.n (.n .z (.n (.loop i_ref14_Build_1 o_ref14_Build_1 p_ref14_Build_1) .z)) (.n .z (.n (.n .z (.n (.loop i_ref14_Build_2 o_ref14_Build_2 p_ref14_Build_2) .z)) .z))))))
def r_ref14_Build : PS := ⟨[(4, .k (.pt 900 0)), (5, .h (.i .i64))], [(900, .box 25 [.h (.sl (.i .i64)), .h (.sl (.i .i64)), .h (.sl (.sl (.i .i64)))])], [(.i .i64), (.sl (.i .i64)), (.sl (.i .i64)), (.sl (.sl (.i .i64)))]⟩
noncomputable def m_ref14_Build (N : Nat) : (List Int) × (List Int) → Option (Int × (List Int) × (List Int) × (List (List Int))) := exF T ct_ref14_Build N (bodyOf Try.f26) 94 p_ref14_Build [.h (.sl (.i .i64)), .h (.sl (.i .i64))] [] [(.sl (.i .i64)), (.sl (.i .i64))] r_ref14_Build
noncomputable def c_ref14_Build (N : Nat) : Ctr := ⟨26, [.h (.sl (.i .i64)), .h (.sl (.i .i64))], [], [(.sl (.i .i64)), (.sl (.i .i64))], Tup r_ref14_Build.c, m_ref14_Build N, fun y _ k => k (resG T (mkPS 94 r_ref14_Build y) Try.f26.results.toList) (keepH' [] (mkPS 94 r_ref14_Build y).h), false, false⟩
theorem l_ref14_Build_4_z (N : Nat) (v : (List Int) × Int × Int × Int × Int × (List Int) × (List Int) × (List Int) × (List (List Int))) : l_ref14_Build_4 N 0 v = none := by kernel_rfl
theorem l_ref14_Build_4_s (N m : Nat) (heights : (List Int)) (n : Int) (i : Int) (h : Int) (k : Int) (l : (List Int)) (v902 : (List Int)) (v903 : (List Int)) (v905 : (List (List Int))) : l_ref14_Build_4 N (m + 1) (heights, n, i, h, k, l, v902, v903, v905) = obind (remI (IntKind.wrap .i64 (i + k)) n) fun z1 =>
  obind (nthI heights z1) fun z2 =>
  cond (decide (z2 ≤ h))
   ((l_ref14_Build_4 N m (heights, (n, (i, (h, ((IntKind.wrap .i64 (k + (1 : Int))), (l, (v902, (v903, v905))))))))))
   (some (heights, (n, (i, (h, (k, (l, (v902, (v903, v905))))))))) := by kernel_rfl
theorem l_ref14_Build_3_z (N : Nat) (v : (List Int) × Int × Int × Int × (List Int) × (List Int) × (List Int) × (List (List Int))) : l_ref14_Build_3 N 0 v = none := by kernel_rfl
theorem l_ref14_Build_3_s (N m : Nat) (heights : (List Int)) (n : Int) (i : Int) (h : Int) (l : (List Int)) (v902 : (List Int)) (v903 : (List Int)) (v905 : (List (List Int))) : l_ref14_Build_3 N (m + 1) (heights, n, i, h, l, v902, v903, v905) = obind (nthI heights i) fun z1 =>
  cond (decide (h < z1))
   (obind (l_ref14_Build_4 N N (heights, (n, (i, (h, ((1 : Int), (l, (v902, (v903, v905))))))))) fun z2 =>
    obind (remI (IntKind.wrap .i64 (z2.2.2.1 + z2.2.2.2.2.1)) z2.2.1) fun z3 =>
    obind (appI (8 : Nat) z2.2.2.2.2.2.1 [z3]) fun z4 =>
    (l_ref14_Build_3 N m (z2.1, (z2.2.1, (z2.2.2.1, ((IntKind.wrap .i64 (z2.2.2.2.1 + (1 : Int))), (z4, (z2.2.2.2.2.2.2.1, (z2.2.2.2.2.2.2.2.1, z2.2.2.2.2.2.2.2.2)))))))))
   (some (heights, (n, (i, (l, (v902, (v903, v905))))))) := by kernel_rfl
theorem l_ref14_Build_2_z (N : Nat) (v : (List Int) × Int × Int × (List Int) × (List Int) × (List (List Int))) : l_ref14_Build_2 N 0 v = none := by kernel_rfl
theorem l_ref14_Build_2_s (N m : Nat) (heights : (List Int)) (n : Int) (i : Int) (v902 : (List Int)) (v903 : (List Int)) (v904 : (List (List Int))) : l_ref14_Build_2 N (m + 1) (heights, n, i, v902, v903, v904) = cond (decide (i < n))
   (obind (l_ref14_Build_3 N N (heights, (n, (i, ((0 : Int), ([], (v902, (v903, v904)))))))) fun z1 =>
    obind (appI (24 : Nat) z1.2.2.2.2.2.2 [z1.2.2.2.1]) fun z2 =>
    (l_ref14_Build_2 N m (z1.1, (z1.2.1, ((IntKind.wrap .i64 (z1.2.2.1 + (1 : Int))), (z1.2.2.2.2.1, (z1.2.2.2.2.2.1, z2)))))))
   (some (v902, (v903, v904))) := by kernel_rfl
theorem l_ref14_Build_1_z (N : Nat) (v : (List Int) × (List Int) × Int × Int) : l_ref14_Build_1 N 0 v = none := by kernel_rfl
theorem l_ref14_Build_1_s (N m : Nat) (tokens : (List Int)) (heights : (List Int)) (n : Int) (i : Int) : l_ref14_Build_1 N (m + 1) (tokens, heights, n, i) = cond (decide (i < n))
   (obind (nthI heights i) fun z1 =>
    cond (decide (z1 < (1 : Int)))
     (some (.inr (1 : Int)))
     (obind (nthI heights i) fun z2 =>
      cond (decide ((8 : Int) < z2))
       (some (.inr (1 : Int)))
       ((l_ref14_Build_1 N m (tokens, (heights, (n, (IntKind.wrap .i64 (i + (1 : Int))))))))))
   (some (.inl (tokens, (heights, n)))) := by kernel_rfl
theorem m_ref14_Build_eq (N : Nat) (tokens : (List Int)) (heights : (List Int)) : m_ref14_Build (N + 1) (tokens, heights) = obind (m_ref13_Right N tokens) fun z1 =>
  cond (!z1)
   (some ((1 : Int), ([], ([], []))))
   (cond (decide ((((List.length tokens) : Nat) : Int) = (0 : Int)))
     (some ((1 : Int), ([], ([], []))))
     (cond (!(decide ((((List.length heights) : Nat) : Int) = (((List.length tokens) : Nat) : Int))))
       (some ((1 : Int), ([], ([], []))))
       (obind (l_ref14_Build_1 N N (tokens, (heights, ((((List.length tokens) : Nat) : Int), (0 : Int))))) fun z2 =>
        (match z2 with
        | .inl zy3 => obind (appI (8 : Nat) [] zy3.1) fun z4 =>
          obind (appI (8 : Nat) [] zy3.2.1) fun z5 =>
          obind (l_ref14_Build_2 N N (zy3.2.1, (zy3.2.2, ((0 : Int), (z4, (z5, [])))))) fun z6 =>
          some ((0 : Int), (z6.1, (z6.2.1, z6.2.2)))
        | .inr zy7 => some (zy7, ([], ([], []))))))) := by kernel_rfl
theorem c_ref14_Build_ok (N : Nat) : (c_ref14_Build N).ok Try.prog := exF_ok (T := T) (CT := ct_ref14_Build) (N := N) (fun M => ⟨tOk, (ctAll_cons (c_ref13_Right_ok M) ctAll_nil), mixed⟩) Try.func26 (by kernel_rfl) (by kernel_rfl) p_ref14_Build [.h (.sl (.i .i64)), .h (.sl (.i .i64))] [] [(.sl (.i .i64)), (.sl (.i .i64))] r_ref14_Build false false [] (by kernel_rfl) (fun y => by kernel_rfl) (fun _ => ⟨rfl, rfl⟩) (fun y => by kernel_rfl) (m_ref14_Build N) (fun x => by kernel_rfl)
/-! archipelago/ring.Right$1 -/
noncomputable def ct_ring_RightF1 (N : Nat) : List Ctr := []
def p_ring_RightF1 : Pl := .z
def r_ring_RightF1 : PS := ⟨[(2, .h .b)], [], [.b]⟩
noncomputable def m_ring_RightF1 (N : Nat) : Int → Option (Bool) := exF T ct_ring_RightF1 N (bodyOf Try.f63) 9 p_ring_RightF1 [.h (.i .i64)] [] [(.i .i64)] r_ring_RightF1
noncomputable def c_ring_RightF1 (N : Nat) : Ctr := ⟨63, [.h (.i .i64)], [], [(.i .i64)], Tup r_ring_RightF1.c, m_ring_RightF1 N, fun y _ k => k (resG T (mkPS 9 r_ring_RightF1 y) Try.f63.results.toList) (keepH' [] (mkPS 9 r_ring_RightF1 y).h), false, true⟩
theorem m_ring_RightF1_eq (N : Nat) (t : Int) : m_ring_RightF1 (N + 1) (t) = cond (decide (t < (0 : Int)))
   (some true)
   (some (decide ((10000 : Int) < t))) := by kernel_rfl
theorem c_ring_RightF1_ok (N : Nat) : (c_ring_RightF1 N).ok Try.prog := exF_ok (T := T) (CT := ct_ring_RightF1) (N := N) (fun M => ⟨tOk, ctAll_nil, mixed⟩) Try.func63 (by kernel_rfl) (by kernel_rfl) p_ring_RightF1 [.h (.i .i64)] [] [(.i .i64)] r_ring_RightF1 false true [] (by kernel_rfl) (fun y => by kernel_rfl) (fun _ => ⟨rfl, rfl⟩) (fun y => by kernel_rfl) (m_ring_RightF1 N) (fun x => by kernel_rfl)
/-! slices.IndexFunc[[]int,int] -/
noncomputable def ct_slices_IndexFunc_Lint_int_ring_RightF1 (N : Nat) : List Ctr := [c_ring_RightF1 N]
def i_slices_IndexFunc_Lint_int_ring_RightF1_1 : PS := ⟨[(0, .h (.sl (.i .i64))), (1, .k (.v (.func (.func 63) #[] #[]))), (7, .h (.i .i64)), (8, .h (.i .i64))], [], [(.sl (.i .i64)), (.i .i64), (.i .i64)]⟩
def o_slices_IndexFunc_Lint_int_ring_RightF1_1 : List (Exit × PS) := [((.exit 0), ⟨[], [], []⟩), (.ret, ⟨[(4, .h (.i .i64))], [], [(.i .i64)]⟩)]
def p_slices_IndexFunc_Lint_int_ring_RightF1_1 : Pl := .z
noncomputable def l_slices_IndexFunc_Lint_int_ring_RightF1_1 (N : Nat) : Nat → (List Int) × Int × Int → Option ((Unit) ⊕ (Int)) := loopF (exC T (ct_slices_IndexFunc_Lint_int_ring_RightF1 N) N (codeAt [1, 0, 1, 0, 0] (bodyOf Try.f66))) 19 i_slices_IndexFunc_Lint_int_ring_RightF1_1 o_slices_IndexFunc_Lint_int_ring_RightF1_1 p_slices_IndexFunc_Lint_int_ring_RightF1_1
def p_slices_IndexFunc_Lint_int_ring_RightF1 : Pl := (.n .z (.n (.n .z (.n (.loop i_slices_IndexFunc_Lint_int_ring_RightF1_1 o_slices_IndexFunc_Lint_int_ring_RightF1_1 p_slices_IndexFunc_Lint_int_ring_RightF1_1) .z)) .z))
def r_slices_IndexFunc_Lint_int_ring_RightF1 : PS := ⟨[(4, .h (.i .i64))], [], [(.i .i64)]⟩
noncomputable def m_slices_IndexFunc_Lint_int_ring_RightF1 (N : Nat) : (List Int) → Option (Int) := exF T ct_slices_IndexFunc_Lint_int_ring_RightF1 N (bodyOf Try.f66) 19 p_slices_IndexFunc_Lint_int_ring_RightF1 [.h (.sl (.i .i64)), .k (.v (.func (.func 63) #[] #[]))] [] [(.sl (.i .i64))] r_slices_IndexFunc_Lint_int_ring_RightF1
noncomputable def c_slices_IndexFunc_Lint_int_ring_RightF1 (N : Nat) : Ctr := ⟨66, [.h (.sl (.i .i64)), .k (.v (.func (.func 63) #[] #[]))], [], [(.sl (.i .i64))], Tup r_slices_IndexFunc_Lint_int_ring_RightF1.c, m_slices_IndexFunc_Lint_int_ring_RightF1 N, fun y _ k => k (resG T (mkPS 19 r_slices_IndexFunc_Lint_int_ring_RightF1 y) Try.f66.results.toList) (keepH' [] (mkPS 19 r_slices_IndexFunc_Lint_int_ring_RightF1 y).h), false, true⟩
theorem l_slices_IndexFunc_Lint_int_ring_RightF1_1_z (N : Nat) (v : (List Int) × Int × Int) : l_slices_IndexFunc_Lint_int_ring_RightF1_1 N 0 v = none := by kernel_rfl
theorem l_slices_IndexFunc_Lint_int_ring_RightF1_1_s (N m : Nat) (s : (List Int)) (v7 : Int) (v8 : Int) : l_slices_IndexFunc_Lint_int_ring_RightF1_1 N (m + 1) (s, v7, v8) = cond (decide (v8 < v7))
   (obind (nthI s v8) fun z1 =>
    obind (m_ring_RightF1 N z1) fun z2 =>
    cond z2
     (some (.inr v8))
     ((l_slices_IndexFunc_Lint_int_ring_RightF1_1 N m (s, (v7, (IntKind.wrap .i64 (v8 + (1 : Int))))))))
   (some (.inl ())) := by kernel_rfl
theorem m_slices_IndexFunc_Lint_int_ring_RightF1_eq (N : Nat) (s : (List Int)) : m_slices_IndexFunc_Lint_int_ring_RightF1 (N + 1) (s) = obind (l_slices_IndexFunc_Lint_int_ring_RightF1_1 N N (s, ((((List.length s) : Nat) : Int), (0 : Int)))) fun z1 =>
  (match z1 with
  | .inl zy2 => some (-(1 : Int))
  | .inr zy3 => some zy3) := by kernel_rfl
theorem c_slices_IndexFunc_Lint_int_ring_RightF1_ok (N : Nat) : (c_slices_IndexFunc_Lint_int_ring_RightF1 N).ok Try.prog := exF_ok (T := T) (CT := ct_slices_IndexFunc_Lint_int_ring_RightF1) (N := N) (fun M => ⟨tOk, (ctAll_cons (c_ring_RightF1_ok M) ctAll_nil), mixed⟩) Try.func66 (by kernel_rfl) (by kernel_rfl) p_slices_IndexFunc_Lint_int_ring_RightF1 [.h (.sl (.i .i64)), .k (.v (.func (.func 63) #[] #[]))] [] [(.sl (.i .i64))] r_slices_IndexFunc_Lint_int_ring_RightF1 false true [] (by kernel_rfl) (fun y => by kernel_rfl) (fun _ => ⟨rfl, rfl⟩) (fun y => by kernel_rfl) (m_slices_IndexFunc_Lint_int_ring_RightF1 N) (fun x => by kernel_rfl)
/-! slices.ContainsFunc[[]int,int] -/
noncomputable def ct_slices_ContainsFunc_Lint_int_ring_RightF1 (N : Nat) : List Ctr := [c_slices_IndexFunc_Lint_int_ring_RightF1 N]
def p_slices_ContainsFunc_Lint_int_ring_RightF1 : Pl := .z
def r_slices_ContainsFunc_Lint_int_ring_RightF1 : PS := ⟨[(4, .h .b)], [], [.b]⟩
noncomputable def m_slices_ContainsFunc_Lint_int_ring_RightF1 (N : Nat) : (List Int) → Option (Bool) := exF T ct_slices_ContainsFunc_Lint_int_ring_RightF1 N (bodyOf Try.f56) 9 p_slices_ContainsFunc_Lint_int_ring_RightF1 [.h (.sl (.i .i64)), .k (.v (.func (.func 63) #[] #[]))] [] [(.sl (.i .i64))] r_slices_ContainsFunc_Lint_int_ring_RightF1
noncomputable def c_slices_ContainsFunc_Lint_int_ring_RightF1 (N : Nat) : Ctr := ⟨56, [.h (.sl (.i .i64)), .k (.v (.func (.func 63) #[] #[]))], [], [(.sl (.i .i64))], Tup r_slices_ContainsFunc_Lint_int_ring_RightF1.c, m_slices_ContainsFunc_Lint_int_ring_RightF1 N, fun y _ k => k (resG T (mkPS 9 r_slices_ContainsFunc_Lint_int_ring_RightF1 y) Try.f56.results.toList) (keepH' [] (mkPS 9 r_slices_ContainsFunc_Lint_int_ring_RightF1 y).h), false, true⟩
theorem m_slices_ContainsFunc_Lint_int_ring_RightF1_eq (N : Nat) (s : (List Int)) : m_slices_ContainsFunc_Lint_int_ring_RightF1 (N + 1) (s) = obind (m_slices_IndexFunc_Lint_int_ring_RightF1 N s) fun z1 =>
  some (decide ((0 : Int) ≤ z1)) := by kernel_rfl
theorem c_slices_ContainsFunc_Lint_int_ring_RightF1_ok (N : Nat) : (c_slices_ContainsFunc_Lint_int_ring_RightF1 N).ok Try.prog := exF_ok (T := T) (CT := ct_slices_ContainsFunc_Lint_int_ring_RightF1) (N := N) (fun M => ⟨tOk, (ctAll_cons (c_slices_IndexFunc_Lint_int_ring_RightF1_ok M) ctAll_nil), mixed⟩) Try.func56 (by kernel_rfl) (by kernel_rfl) p_slices_ContainsFunc_Lint_int_ring_RightF1 [.h (.sl (.i .i64)), .k (.v (.func (.func 63) #[] #[]))] [] [(.sl (.i .i64))] r_slices_ContainsFunc_Lint_int_ring_RightF1 false true [] (by kernel_rfl) (fun y => by kernel_rfl) (fun _ => ⟨rfl, rfl⟩) (fun y => by kernel_rfl) (m_slices_ContainsFunc_Lint_int_ring_RightF1 N) (fun x => by kernel_rfl)
/-! archipelago/ring.once[int] -/
noncomputable def ct_ring_once_int (N : Nat) : List Ctr := []
def i_ring_once_int_1 : PS := ⟨[(0, .h (.sl (.i .i64))), (3, .k (.mp 900)), (7, .h (.sl (.i .i64))), (8, .h (.i .i64)), (9, .h (.i .i64))], [(900, .mp (.int .i64) (.i .i64) (.i .i64))], [(.sl (.i .i64)), (.sl (.i .i64)), (.i .i64), (.i .i64), (.sl (.pr (.i .i64) (.i .i64)))]⟩
def o_ring_once_int_1 : List (Exit × PS) := [((.exit 0), ⟨[(0, .h (.sl (.i .i64))), (3, .k (.mp 900))], [(900, .mp (.int .i64) (.i .i64) (.i .i64))], [(.sl (.i .i64)), (.sl (.pr (.i .i64) (.i .i64)))]⟩)]
def p_ring_once_int_1 : Pl := .z
noncomputable def l_ring_once_int_1 (N : Nat) : Nat → (List Int) × (List Int) × Int × Int × (List (Int × Int)) → Option ((List Int) × (List (Int × Int))) := loopF (exC T (ct_ring_once_int N) N (codeAt [1, 1, 0, 1, 0, 0] (bodyOf Try.f64))) 23 i_ring_once_int_1 o_ring_once_int_1 p_ring_once_int_1
def p_ring_once_int : Pl := (.n .z (.n .z (.n (.n .z (.n (.loop i_ring_once_int_1 o_ring_once_int_1 p_ring_once_int_1) .z)) .z)))
def r_ring_once_int : PS := ⟨[(2, .h .b)], [], [.b]⟩
noncomputable def m_ring_once_int (N : Nat) : (List Int) → Option (Bool) := exF T ct_ring_once_int N (bodyOf Try.f64) 23 p_ring_once_int [.h (.sl (.i .i64))] [] [(.sl (.i .i64))] r_ring_once_int
noncomputable def c_ring_once_int (N : Nat) : Ctr := ⟨64, [.h (.sl (.i .i64))], [], [(.sl (.i .i64))], Tup r_ring_once_int.c, m_ring_once_int N, fun y _ k => k (resG T (mkPS 23 r_ring_once_int y) Try.f64.results.toList) (keepH' [] (mkPS 23 r_ring_once_int y).h), false, true⟩
theorem l_ring_once_int_1_z (N : Nat) (v : (List Int) × (List Int) × Int × Int × (List (Int × Int))) : l_ring_once_int_1 N 0 v = none := by kernel_rfl
theorem l_ring_once_int_1_s (N m : Nat) (l : (List Int)) (v7 : (List Int)) (v8 : Int) (v9 : Int) (met : (List (Int × Int))) : l_ring_once_int_1 N (m + 1) (l, v7, v8, v9, met) = cond (decide (v9 < v8))
   (obind (nthI v7 v9) fun z1 =>
    (l_ring_once_int_1 N m (l, (v7, (v8, ((IntKind.wrap .i64 (v9 + (1 : Int))), (mput (.i .i64) met z1 (IntKind.wrap .i64 ((Option.getD (mget (.i .i64) met z1) (0 : Int)) + (1 : Int))))))))))
   (some (l, met)) := by kernel_rfl
theorem m_ring_once_int_eq (N : Nat) (l : (List Int)) : m_ring_once_int (N + 1) (l) = obind (l_ring_once_int_1 N N (l, (l, ((((List.length l) : Nat) : Int), ((0 : Int), []))))) fun z1 =>
  some (decide ((((List.length z1.2) : Nat) : Int) = (((List.length z1.1) : Nat) : Int))) := by kernel_rfl
theorem c_ring_once_int_ok (N : Nat) : (c_ring_once_int N).ok Try.prog := exF_ok (T := T) (CT := ct_ring_once_int) (N := N) (fun M => ⟨tOk, ctAll_nil, mixed⟩) Try.func64 (by kernel_rfl) (by kernel_rfl) p_ring_once_int [.h (.sl (.i .i64))] [] [(.sl (.i .i64))] r_ring_once_int false true [] (by kernel_rfl) (fun y => by kernel_rfl) (fun _ => ⟨rfl, rfl⟩) (fun y => by kernel_rfl) (m_ring_once_int N) (fun x => by kernel_rfl)
/-! archipelago/ring.Right -/
noncomputable def ct_ring_Right (N : Nat) : List Ctr := [c_slices_ContainsFunc_Lint_int_ring_RightF1 N, c_ring_once_int N]
def p_ring_Right : Pl := .z
def r_ring_Right : PS := ⟨[(2, .h .b)], [], [.b]⟩
noncomputable def m_ring_Right (N : Nat) : (List Int) → Option (Bool) := exF T ct_ring_Right N (bodyOf Try.f49) 15 p_ring_Right [.h (.sl (.i .i64))] [] [(.sl (.i .i64))] r_ring_Right
noncomputable def c_ring_Right (N : Nat) : Ctr := ⟨49, [.h (.sl (.i .i64))], [], [(.sl (.i .i64))], Tup r_ring_Right.c, m_ring_Right N, fun y _ k => k (resG T (mkPS 15 r_ring_Right y) Try.f49.results.toList) (keepH' [] (mkPS 15 r_ring_Right y).h), false, true⟩
theorem m_ring_Right_eq (N : Nat) (l : (List Int)) : m_ring_Right (N + 1) (l) = cond (decide ((1000 : Int) < (((List.length l) : Nat) : Int)))
   (some false)
   (obind (m_slices_ContainsFunc_Lint_int_ring_RightF1 N l) fun z1 =>
    cond (!z1)
     (obind (m_ring_once_int N l) fun z2 =>
      some z2)
     (some false)) := by kernel_rfl
theorem c_ring_Right_ok (N : Nat) : (c_ring_Right N).ok Try.prog := exF_ok (T := T) (CT := ct_ring_Right) (N := N) (fun M => ⟨tOk, (ctAll_cons (c_slices_ContainsFunc_Lint_int_ring_RightF1_ok M) (ctAll_cons (c_ring_once_int_ok M) ctAll_nil)), mixed⟩) Try.func49 (by kernel_rfl) (by kernel_rfl) p_ring_Right [.h (.sl (.i .i64))] [] [(.sl (.i .i64))] r_ring_Right false true [] (by kernel_rfl) (fun y => by kernel_rfl) (fun _ => ⟨rfl, rfl⟩) (fun y => by kernel_rfl) (m_ring_Right N) (fun x => by kernel_rfl)
/-! archipelago/tower.high -/
noncomputable def ct_tower_high (N : Nat) : List Ctr := []
def p_tower_high : Pl := .z
def r_tower_high : PS := ⟨[(2, .h .b)], [], [.b]⟩
noncomputable def m_tower_high (N : Nat) : Int → Option (Bool) := exF T ct_tower_high N (bodyOf Try.f55) 9 p_tower_high [.h (.i .i64)] [] [(.i .i64)] r_tower_high
noncomputable def c_tower_high (N : Nat) : Ctr := ⟨55, [.h (.i .i64)], [], [(.i .i64)], Tup r_tower_high.c, m_tower_high N, fun y _ k => k (resG T (mkPS 9 r_tower_high y) Try.f55.results.toList) (keepH' [] (mkPS 9 r_tower_high y).h), false, true⟩
theorem m_tower_high_eq (N : Nat) (h : Int) : m_tower_high (N + 1) (h) = cond (decide ((1 : Int) ≤ h))
   (some (decide (h ≤ (8 : Int))))
   (some false) := by kernel_rfl
theorem c_tower_high_ok (N : Nat) : (c_tower_high N).ok Try.prog := exF_ok (T := T) (CT := ct_tower_high) (N := N) (fun M => ⟨tOk, ctAll_nil, mixed⟩) Try.func55 (by kernel_rfl) (by kernel_rfl) p_tower_high [.h (.i .i64)] [] [(.i .i64)] r_tower_high false true [] (by kernel_rfl) (fun y => by kernel_rfl) (fun _ => ⟨rfl, rfl⟩) (fun y => by kernel_rfl) (m_tower_high N) (fun x => by kernel_rfl)
/-! archipelago/tower.Build$1 -/
noncomputable def ct_tower_BuildF1 (N : Nat) : List Ctr := [c_tower_high N]
def p_tower_BuildF1 : Pl := .z
def r_tower_BuildF1 : PS := ⟨[(2, .h .b)], [], [.b]⟩
noncomputable def m_tower_BuildF1 (N : Nat) : Int → Option (Bool) := exF T ct_tower_BuildF1 N (bodyOf Try.f54) 6 p_tower_BuildF1 [.h (.i .i64)] [] [(.i .i64)] r_tower_BuildF1
noncomputable def c_tower_BuildF1 (N : Nat) : Ctr := ⟨54, [.h (.i .i64)], [], [(.i .i64)], Tup r_tower_BuildF1.c, m_tower_BuildF1 N, fun y _ k => k (resG T (mkPS 6 r_tower_BuildF1 y) Try.f54.results.toList) (keepH' [] (mkPS 6 r_tower_BuildF1 y).h), false, true⟩
theorem m_tower_BuildF1_eq (N : Nat) (h : Int) : m_tower_BuildF1 (N + 1) (h) = obind (m_tower_high N h) fun z1 =>
  some (!z1) := by kernel_rfl
theorem c_tower_BuildF1_ok (N : Nat) : (c_tower_BuildF1 N).ok Try.prog := exF_ok (T := T) (CT := ct_tower_BuildF1) (N := N) (fun M => ⟨tOk, (ctAll_cons (c_tower_high_ok M) ctAll_nil), mixed⟩) Try.func54 (by kernel_rfl) (by kernel_rfl) p_tower_BuildF1 [.h (.i .i64)] [] [(.i .i64)] r_tower_BuildF1 false true [] (by kernel_rfl) (fun y => by kernel_rfl) (fun _ => ⟨rfl, rfl⟩) (fun y => by kernel_rfl) (m_tower_BuildF1 N) (fun x => by kernel_rfl)
/-! slices.IndexFunc[[]int,int] -/
noncomputable def ct_slices_IndexFunc_Lint_int_tower_BuildF1 (N : Nat) : List Ctr := [c_tower_BuildF1 N]
def i_slices_IndexFunc_Lint_int_tower_BuildF1_1 : PS := ⟨[(0, .h (.sl (.i .i64))), (1, .k (.v (.func (.func 54) #[] #[]))), (7, .h (.i .i64)), (8, .h (.i .i64))], [], [(.sl (.i .i64)), (.i .i64), (.i .i64)]⟩
def o_slices_IndexFunc_Lint_int_tower_BuildF1_1 : List (Exit × PS) := [((.exit 0), ⟨[], [], []⟩), (.ret, ⟨[(4, .h (.i .i64))], [], [(.i .i64)]⟩)]
def p_slices_IndexFunc_Lint_int_tower_BuildF1_1 : Pl := .z
noncomputable def l_slices_IndexFunc_Lint_int_tower_BuildF1_1 (N : Nat) : Nat → (List Int) × Int × Int → Option ((Unit) ⊕ (Int)) := loopF (exC T (ct_slices_IndexFunc_Lint_int_tower_BuildF1 N) N (codeAt [1, 0, 1, 0, 0] (bodyOf Try.f66))) 19 i_slices_IndexFunc_Lint_int_tower_BuildF1_1 o_slices_IndexFunc_Lint_int_tower_BuildF1_1 p_slices_IndexFunc_Lint_int_tower_BuildF1_1
def p_slices_IndexFunc_Lint_int_tower_BuildF1 : Pl := (.n .z (.n (.n .z (.n (.loop i_slices_IndexFunc_Lint_int_tower_BuildF1_1 o_slices_IndexFunc_Lint_int_tower_BuildF1_1 p_slices_IndexFunc_Lint_int_tower_BuildF1_1) .z)) .z))
def r_slices_IndexFunc_Lint_int_tower_BuildF1 : PS := ⟨[(4, .h (.i .i64))], [], [(.i .i64)]⟩
noncomputable def m_slices_IndexFunc_Lint_int_tower_BuildF1 (N : Nat) : (List Int) → Option (Int) := exF T ct_slices_IndexFunc_Lint_int_tower_BuildF1 N (bodyOf Try.f66) 19 p_slices_IndexFunc_Lint_int_tower_BuildF1 [.h (.sl (.i .i64)), .k (.v (.func (.func 54) #[] #[]))] [] [(.sl (.i .i64))] r_slices_IndexFunc_Lint_int_tower_BuildF1
noncomputable def c_slices_IndexFunc_Lint_int_tower_BuildF1 (N : Nat) : Ctr := ⟨66, [.h (.sl (.i .i64)), .k (.v (.func (.func 54) #[] #[]))], [], [(.sl (.i .i64))], Tup r_slices_IndexFunc_Lint_int_tower_BuildF1.c, m_slices_IndexFunc_Lint_int_tower_BuildF1 N, fun y _ k => k (resG T (mkPS 19 r_slices_IndexFunc_Lint_int_tower_BuildF1 y) Try.f66.results.toList) (keepH' [] (mkPS 19 r_slices_IndexFunc_Lint_int_tower_BuildF1 y).h), false, true⟩
theorem l_slices_IndexFunc_Lint_int_tower_BuildF1_1_z (N : Nat) (v : (List Int) × Int × Int) : l_slices_IndexFunc_Lint_int_tower_BuildF1_1 N 0 v = none := by kernel_rfl
theorem l_slices_IndexFunc_Lint_int_tower_BuildF1_1_s (N m : Nat) (s : (List Int)) (v7 : Int) (v8 : Int) : l_slices_IndexFunc_Lint_int_tower_BuildF1_1 N (m + 1) (s, v7, v8) = cond (decide (v8 < v7))
   (obind (nthI s v8) fun z1 =>
    obind (m_tower_BuildF1 N z1) fun z2 =>
    cond z2
     (some (.inr v8))
     ((l_slices_IndexFunc_Lint_int_tower_BuildF1_1 N m (s, (v7, (IntKind.wrap .i64 (v8 + (1 : Int))))))))
   (some (.inl ())) := by kernel_rfl
theorem m_slices_IndexFunc_Lint_int_tower_BuildF1_eq (N : Nat) (s : (List Int)) : m_slices_IndexFunc_Lint_int_tower_BuildF1 (N + 1) (s) = obind (l_slices_IndexFunc_Lint_int_tower_BuildF1_1 N N (s, ((((List.length s) : Nat) : Int), (0 : Int)))) fun z1 =>
  (match z1 with
  | .inl zy2 => some (-(1 : Int))
  | .inr zy3 => some zy3) := by kernel_rfl
theorem c_slices_IndexFunc_Lint_int_tower_BuildF1_ok (N : Nat) : (c_slices_IndexFunc_Lint_int_tower_BuildF1 N).ok Try.prog := exF_ok (T := T) (CT := ct_slices_IndexFunc_Lint_int_tower_BuildF1) (N := N) (fun M => ⟨tOk, (ctAll_cons (c_tower_BuildF1_ok M) ctAll_nil), mixed⟩) Try.func66 (by kernel_rfl) (by kernel_rfl) p_slices_IndexFunc_Lint_int_tower_BuildF1 [.h (.sl (.i .i64)), .k (.v (.func (.func 54) #[] #[]))] [] [(.sl (.i .i64))] r_slices_IndexFunc_Lint_int_tower_BuildF1 false true [] (by kernel_rfl) (fun y => by kernel_rfl) (fun _ => ⟨rfl, rfl⟩) (fun y => by kernel_rfl) (m_slices_IndexFunc_Lint_int_tower_BuildF1 N) (fun x => by kernel_rfl)
/-! slices.ContainsFunc[[]int,int] -/
noncomputable def ct_slices_ContainsFunc_Lint_int_tower_BuildF1 (N : Nat) : List Ctr := [c_slices_IndexFunc_Lint_int_tower_BuildF1 N]
def p_slices_ContainsFunc_Lint_int_tower_BuildF1 : Pl := .z
def r_slices_ContainsFunc_Lint_int_tower_BuildF1 : PS := ⟨[(4, .h .b)], [], [.b]⟩
noncomputable def m_slices_ContainsFunc_Lint_int_tower_BuildF1 (N : Nat) : (List Int) → Option (Bool) := exF T ct_slices_ContainsFunc_Lint_int_tower_BuildF1 N (bodyOf Try.f56) 9 p_slices_ContainsFunc_Lint_int_tower_BuildF1 [.h (.sl (.i .i64)), .k (.v (.func (.func 54) #[] #[]))] [] [(.sl (.i .i64))] r_slices_ContainsFunc_Lint_int_tower_BuildF1
noncomputable def c_slices_ContainsFunc_Lint_int_tower_BuildF1 (N : Nat) : Ctr := ⟨56, [.h (.sl (.i .i64)), .k (.v (.func (.func 54) #[] #[]))], [], [(.sl (.i .i64))], Tup r_slices_ContainsFunc_Lint_int_tower_BuildF1.c, m_slices_ContainsFunc_Lint_int_tower_BuildF1 N, fun y _ k => k (resG T (mkPS 9 r_slices_ContainsFunc_Lint_int_tower_BuildF1 y) Try.f56.results.toList) (keepH' [] (mkPS 9 r_slices_ContainsFunc_Lint_int_tower_BuildF1 y).h), false, true⟩
theorem m_slices_ContainsFunc_Lint_int_tower_BuildF1_eq (N : Nat) (s : (List Int)) : m_slices_ContainsFunc_Lint_int_tower_BuildF1 (N + 1) (s) = obind (m_slices_IndexFunc_Lint_int_tower_BuildF1 N s) fun z1 =>
  some (decide ((0 : Int) ≤ z1)) := by kernel_rfl
theorem c_slices_ContainsFunc_Lint_int_tower_BuildF1_ok (N : Nat) : (c_slices_ContainsFunc_Lint_int_tower_BuildF1 N).ok Try.prog := exF_ok (T := T) (CT := ct_slices_ContainsFunc_Lint_int_tower_BuildF1) (N := N) (fun M => ⟨tOk, (ctAll_cons (c_slices_IndexFunc_Lint_int_tower_BuildF1_ok M) ctAll_nil), mixed⟩) Try.func56 (by kernel_rfl) (by kernel_rfl) p_slices_ContainsFunc_Lint_int_tower_BuildF1 [.h (.sl (.i .i64)), .k (.v (.func (.func 54) #[] #[]))] [] [(.sl (.i .i64))] r_slices_ContainsFunc_Lint_int_tower_BuildF1 false true [] (by kernel_rfl) (fun y => by kernel_rfl) (fun _ => ⟨rfl, rfl⟩) (fun y => by kernel_rfl) (m_slices_ContainsFunc_Lint_int_tower_BuildF1 N) (fun x => by kernel_rfl)
/-! slices.Clone[[]int,int] -/
noncomputable def ct_slices_Clone_Lint_int (N : Nat) : List Ctr := []
def p_slices_Clone_Lint_int : Pl := .z
def r_slices_Clone_Lint_int : PS := ⟨[(2, .k (.ow 900))], [(900, .arr 3 (.i .i64) true)], [(.sl (.i .i64))]⟩
noncomputable def m_slices_Clone_Lint_int (N : Nat) : (List Int) → Option ((List Int)) := exF T ct_slices_Clone_Lint_int N (bodyOf Try.f52) 8 p_slices_Clone_Lint_int [.h (.sl (.i .i64))] [] [(.sl (.i .i64))] r_slices_Clone_Lint_int
noncomputable def c_slices_Clone_Lint_int (N : Nat) : Ctr := ⟨52, [.h (.sl (.i .i64))], [], [(.sl (.i .i64))], Tup r_slices_Clone_Lint_int.c, m_slices_Clone_Lint_int N, fun y _ k => k (resG T (mkPS 8 r_slices_Clone_Lint_int y) Try.f52.results.toList) (keepH' [900] (mkPS 8 r_slices_Clone_Lint_int y).h), true, true⟩
theorem m_slices_Clone_Lint_int_eq (N : Nat) (s : (List Int)) : m_slices_Clone_Lint_int (N + 1) (s) = cond (isNilB s)
   (dem fun zb1 =>
    cond zb1
     (some [])
     (obind (appI (8 : Nat) [] s) fun z2 =>
      some z2))
   (obind (appI (8 : Nat) [] s) fun z3 =>
    some z3) := by kernel_rfl
theorem c_slices_Clone_Lint_int_ok (N : Nat) : (c_slices_Clone_Lint_int N).ok Try.prog := exF_ok (T := T) (CT := ct_slices_Clone_Lint_int) (N := N) (fun M => ⟨tOk, ctAll_nil, mixed⟩) Try.func52 (by kernel_rfl) (by kernel_rfl) p_slices_Clone_Lint_int [.h (.sl (.i .i64))] [] [(.sl (.i .i64))] r_slices_Clone_Lint_int true true [900] (by kernel_rfl) (fun y => by kernel_rfl) (fun h => by cases h) (fun y => by kernel_rfl) (m_slices_Clone_Lint_int N) (fun x => by kernel_rfl)
/-! archipelago/tower.Build -/
noncomputable def ct_tower_Build (N : Nat) : List Ctr := [c_ring_Right N, c_slices_ContainsFunc_Lint_int_tower_BuildF1 N, c_slices_Clone_Lint_int N]
def i_tower_Build_3 : PS := ⟨[(1, .h (.sl (.i .i64))), (4, .k (.pt 900 0)), (6, .h (.i .i64)), (8, .k (.pt 901 0)), (9, .k (.pt 902 0)), (11, .h (.i .i64)), (42, .h (.i .i64)), (43, .h (.i .i64)), (68, .h (.i .i64)), (69, .h (.i .i64))], [(900, .box 25 [.k .nil, .k .nil, .k .nil]), (901, .box 25 [.k (.ow 903), .k (.ow 904), .k (.ow 905)]), (902, .arr 78 (.i .i64) true), (903, .arr 3 (.i .i64) true), (904, .arr 3 (.i .i64) true), (905, .arr 22 (.sl (.i .i64)) true)], [(.sl (.i .i64)), (.i .i64), (.i .i64), (.i .i64), (.i .i64), (.i .i64), (.i .i64), (.sl (.i .i64)), (.sl (.i .i64)), (.sl (.i .i64)), (.sl (.sl (.i .i64)))]⟩
def o_tower_Build_3 : List (Exit × PS) := [((.exit 2), ⟨[(1, .h (.sl (.i .i64))), (4, .k (.pt 900 0)), (6, .h (.i .i64)), (8, .k (.pt 901 0)), (9, .k (.pt 902 0)), (42, .h (.i .i64)), (43, .h (.i .i64))], [(900, .box 25 [.k .nil, .k .nil, .k .nil]), (901, .box 25 [.k (.ow 903), .k (.ow 904), .k (.ow 905)]), (902, .arr 78 (.i .i64) true), (903, .arr 3 (.i .i64) true), (904, .arr 3 (.i .i64) true), (905, .arr 22 (.sl (.i .i64)) true)], [(.sl (.i .i64)), (.i .i64), (.i .i64), (.i .i64), (.sl (.i .i64)), (.sl (.i .i64)), (.sl (.i .i64)), (.sl (.sl (.i .i64)))]⟩)]
def p_tower_Build_3 : Pl := .z
noncomputable def l_tower_Build_3 (N : Nat) : Nat → (List Int) × Int × Int × Int × Int × Int × Int × (List Int) × (List Int) × (List Int) × (List (List Int)) → Option ((List Int) × Int × Int × Int × (List Int) × (List Int) × (List Int) × (List (List Int))) := loopF (exC T (ct_tower_Build N) N (codeAt [1, 1, 1, 1, 1, 1, 0, 1, 0, 0, 1, 1, 0, 0, 1, 1, 1, 1, 0, 0] (bodyOf Try.f44))) 78 i_tower_Build_3 o_tower_Build_3 p_tower_Build_3
def i_tower_Build_2 : PS := ⟨[(1, .h (.sl (.i .i64))), (4, .k (.pt 900 0)), (6, .h (.i .i64)), (8, .k (.pt 901 0)), (9, .k (.pt 902 0)), (10, .h (.i .i64)), (11, .h (.i .i64)), (42, .h (.i .i64)), (43, .h (.i .i64))], [(900, .box 25 [.k .nil, .k .nil, .k .nil]), (901, .box 25 [.k (.ow 903), .k (.ow 904), .k (.ow 905)]), (902, .arr 78 (.i .i64) true), (903, .arr 3 (.i .i64) true), (904, .arr 3 (.i .i64) true), (905, .arr 22 (.sl (.i .i64)) true)], [(.sl (.i .i64)), (.i .i64), (.i .i64), (.i .i64), (.i .i64), (.i .i64), (.sl (.i .i64)), (.sl (.i .i64)), (.sl (.i .i64)), (.sl (.sl (.i .i64)))]⟩
def o_tower_Build_2 : List (Exit × PS) := [(.normal, ⟨[(1, .h (.sl (.i .i64))), (4, .k (.pt 900 0)), (6, .h (.i .i64)), (8, .k (.pt 901 0)), (9, .k (.pt 902 0)), (11, .h (.i .i64)), (42, .h (.i .i64)), (43, .h (.i .i64))], [(900, .box 25 [.k .nil, .k .nil, .k .nil]), (901, .box 25 [.k (.ow 903), .k (.ow 904), .k (.ow 905)]), (902, .arr 78 (.i .i64) true), (903, .arr 3 (.i .i64) true), (904, .arr 3 (.i .i64) true), (905, .arr 22 (.sl (.i .i64)) true)], [(.sl (.i .i64)), (.i .i64), (.i .i64), (.i .i64), (.i .i64), (.sl (.i .i64)), (.sl (.i .i64)), (.sl (.i .i64)), (.sl (.sl (.i .i64)))]⟩)]
def p_tower_Build_2 : Pl := .z
noncomputable def l_tower_Build_2 (N : Nat) : Nat → (List Int) × Int × Int × Int × Int × Int × (List Int) × (List Int) × (List Int) × (List (List Int)) → Option ((List Int) × Int × Int × Int × Int × (List Int) × (List Int) × (List Int) × (List (List Int))) := joinF (exC0 T (ct_tower_Build N) N (codeAt [1, 1, 1, 1, 1, 1, 0, 1, 0, 0, 1, 1, 0, 0, 1, 1, 0] (bodyOf Try.f44))) 78 i_tower_Build_2 o_tower_Build_2 p_tower_Build_2
def i_tower_Build_1 : PS := ⟨[(1, .h (.sl (.i .i64))), (4, .k (.pt 900 0)), (6, .h (.i .i64)), (8, .k (.pt 901 0)), (9, .k (.pt 902 0)), (42, .h (.i .i64)), (43, .h (.i .i64))], [(900, .box 25 [.k .nil, .k .nil, .k .nil]), (901, .box 25 [.k (.ow 903), .k (.ow 904), .k (.ow 905)]), (902, .arr 78 (.i .i64) true), (903, .arr 3 (.i .i64) true), (904, .arr 3 (.i .i64) true), (905, .arr 22 (.sl (.i .i64)) true)], [(.sl (.i .i64)), (.i .i64), (.i .i64), (.i .i64), (.sl (.i .i64)), (.sl (.i .i64)), (.sl (.i .i64)), (.sl (.sl (.i .i64)))]⟩
def o_tower_Build_1 : List (Exit × PS) := [((.exit 0), ⟨[(4, .k (.pt 900 0)), (8, .k (.pt 901 0))], [(900, .box 25 [.k .nil, .k .nil, .k .nil]), (901, .box 25 [.k (.ow 902), .k (.ow 903), .k (.ow 904)]), (902, .arr 3 (.i .i64) true), (903, .arr 3 (.i .i64) true), (904, .arr 22 (.sl (.i .i64)) true)], [(.sl (.i .i64)), (.sl (.i .i64)), (.sl (.sl (.i .i64)))]⟩)]
def p_tower_Build_1 : Pl := (.n .z (.n .z (.n (.n (.n .z (.n .z (.n (.join i_tower_Build_2 o_tower_Build_2 p_tower_Build_2) (.n .z (.n (.loop i_tower_Build_3 o_tower_Build_3 p_tower_Build_3) .z))))) .z) .z)))
noncomputable def l_tower_Build_1 (N : Nat) : Nat → (List Int) × Int × Int × Int × (List Int) × (List Int) × (List Int) × (List (List Int)) → Option ((List Int) × (List Int) × (List (List Int))) := loopF (exC T (ct_tower_Build N) N (codeAt [1, 1, 1, 1, 1, 1, 0, 1, 0, 0] (bodyOf Try.f44))) 78 i_tower_Build_1 o_tower_Build_1 p_tower_Build_1
def p_tower_Build : Pl := (.n .z (.n .z (.n .z (.n .z (.n .z (.n .z (.n (.n .z (.n (.loop i_tower_Build_1 o_tower_Build_1 p_tower_Build_1) .z)) .z)))))))
def r_tower_Build : PS := ⟨[(4, .k (.pt 900 0)), (5, .h (.i .i64))], [(900, .box 25 [.h (.sl (.i .i64)), .h (.sl (.i .i64)), .h (.sl (.sl (.i .i64)))])], [(.i .i64), (.sl (.i .i64)), (.sl (.i .i64)), (.sl (.sl (.i .i64)))]⟩
noncomputable def m_tower_Build (N : Nat) : (List Int) × (List Int) → Option (Int × (List Int) × (List Int) × (List (List Int))) := exF T ct_tower_Build N (bodyOf Try.f44) 78 p_tower_Build [.h (.sl (.i .i64)), .h (.sl (.i .i64))] [] [(.sl (.i .i64)), (.sl (.i .i64))] r_tower_Build
noncomputable def c_tower_Build (N : Nat) : Ctr := ⟨44, [.h (.sl (.i .i64)), .h (.sl (.i .i64))], [], [(.sl (.i .i64)), (.sl (.i .i64))], Tup r_tower_Build.c, m_tower_Build N, fun y _ k => k (resG T (mkPS 78 r_tower_Build y) Try.f44.results.toList) (keepH' [] (mkPS 78 r_tower_Build y).h), false, false⟩
theorem l_tower_Build_3_z (N : Nat) (v : (List Int) × Int × Int × Int × Int × Int × Int × (List Int) × (List Int) × (List Int) × (List (List Int))) : l_tower_Build_3 N 0 v = none := by kernel_rfl
theorem l_tower_Build_3_s (N m : Nat) (heights : (List Int)) (n : Int) (i : Int) (v42 : Int) (v43 : Int) (v68 : Int) (v69 : Int) (behind : (List Int)) (v903 : (List Int)) (v904 : (List Int)) (v905 : (List (List Int))) : l_tower_Build_3 N (m + 1) (heights, n, i, v42, v43, v68, v69, behind, v903, v904, v905) = cond (decide (v69 < v68))
   (obind (nthI (List.range (8 : Nat)) v69) fun z1 =>
    obind (nthI behind v69) fun z2 =>
    obind (nthI behind v69) fun z3 =>
    (l_tower_Build_3 N m (heights, (n, (i, (v42, (v43, (v68, ((IntKind.wrap .i64 (v69 + (1 : Int))), ((List.set behind (Int.toNat v69) i), (v903, (v904, v905))))))))))))
   (some (heights, (n, (v42, (v43, (behind, (v903, (v904, v905)))))))) := by kernel_rfl
theorem l_tower_Build_2_s (N m : Nat) (heights : (List Int)) (n : Int) (k : Int) (i : Int) (v42 : Int) (v43 : Int) (behind : (List Int)) (v903 : (List Int)) (v904 : (List Int)) (v905 : (List (List Int))) : l_tower_Build_2 N (m + 1) (heights, n, k, i, v42, v43, behind, v903, v904, v905) = cond (decide (n ≤ k))
   (obind (nthI heights i) fun z1 =>
    obind (subI (List.replicate (8 : Nat) ()) (0 : Int) z1) fun z2 =>
    cond ((Nat.ble ((Int.toNat (0 : Int)) + (Int.toNat (z1 - (0 : Int)))) (List.length behind)) && true)
     (obind (m_slices_Clone_Lint_int N (List.take (Int.toNat (z1 - (0 : Int))) (List.drop (Int.toNat (0 : Int)) behind))) fun z3 =>
      obind (nthI v905 i) fun z4 =>
      obind (nthI v905 i) fun z5 =>
      some (heights, (n, (i, (v42, (v43, (behind, (v903, (v904, (List.set v905 (Int.toNat i) z3))))))))))
     (none))
   (some (heights, (n, (i, (v42, (v43, (behind, (v903, (v904, v905))))))))) := by kernel_rfl
theorem l_tower_Build_1_z (N : Nat) (v : (List Int) × Int × Int × Int × (List Int) × (List Int) × (List Int) × (List (List Int))) : l_tower_Build_1 N 0 v = none := by kernel_rfl
theorem l_tower_Build_1_s (N m : Nat) (heights : (List Int)) (n : Int) (v42 : Int) (v43 : Int) (behind : (List Int)) (v903 : (List Int)) (v904 : (List Int)) (v905 : (List (List Int))) : l_tower_Build_1 N (m + 1) (heights, n, v42, v43, behind, v903, v904, v905) = cond (decide (v43 < v42))
   (obind (remI v43 n) fun z1 =>
    obind (l_tower_Build_2 N N (heights, (n, (v43, ((IntKind.wrap .i64 ((IntKind.wrap .i64 (n - (1 : Int))) - z1)), (v42, (v43, (behind, (v903, (v904, v905)))))))))) fun z2 =>
    obind (nthI z2.1 z2.2.2.1) fun z3 =>
    obind (l_tower_Build_3 N N (z2.1, (z2.2.1, (z2.2.2.1, (z2.2.2.2.1, (z2.2.2.2.2.1, (z3, ((0 : Int), (z2.2.2.2.2.2.1, (z2.2.2.2.2.2.2.1, (z2.2.2.2.2.2.2.2.1, z2.2.2.2.2.2.2.2.2))))))))))) fun z4 =>
    (l_tower_Build_1 N m (z4.1, (z4.2.1, (z4.2.2.1, ((IntKind.wrap .i64 (z4.2.2.2.1 + (1 : Int))), (z4.2.2.2.2.1, (z4.2.2.2.2.2.1, (z4.2.2.2.2.2.2.1, z4.2.2.2.2.2.2.2)))))))))
   (some (v903, (v904, v905))) := by kernel_rfl
theorem m_tower_Build_eq (N : Nat) (tokens : (List Int)) (heights : (List Int)) : m_tower_Build (N + 1) (tokens, heights) = cond (decide ((((List.length tokens) : Nat) : Int) = (0 : Int)))
   (some ((1 : Int), ([], ([], []))))
   (cond (!(decide ((((List.length heights) : Nat) : Int) = (((List.length tokens) : Nat) : Int))))
     (some ((1 : Int), ([], ([], []))))
     (obind (m_ring_Right N tokens) fun z1 =>
      cond (!z1)
       (some ((1 : Int), ([], ([], []))))
       (obind (m_slices_ContainsFunc_Lint_int_tower_BuildF1 N heights) fun z2 =>
        cond z2
         (some ((1 : Int), ([], ([], []))))
         (obind (m_slices_Clone_Lint_int N tokens) fun z3 =>
          obind (m_slices_Clone_Lint_int N heights) fun z4 =>
          obind (makI (((List.length tokens) : Nat) : Int) (24 : Nat)) fun z5 =>
          obind (l_tower_Build_1 N N (heights, ((((List.length tokens) : Nat) : Int), ((IntKind.wrap .i64 ((2 : Int) * (((List.length tokens) : Nat) : Int))), ((0 : Int), ((List.replicate (8 : Nat) (0 : Int)), (z3, (z4, (List.replicate z5 []))))))))) fun z6 =>
          some ((0 : Int), (z6.1, (z6.2.1, z6.2.2))))))) := by kernel_rfl
theorem c_tower_Build_ok (N : Nat) : (c_tower_Build N).ok Try.prog := exF_ok (T := T) (CT := ct_tower_Build) (N := N) (fun M => ⟨tOk, (ctAll_cons (c_ring_Right_ok M) (ctAll_cons (c_slices_ContainsFunc_Lint_int_tower_BuildF1_ok M) (ctAll_cons (c_slices_Clone_Lint_int_ok M) ctAll_nil))), mixed⟩) Try.func44 (by kernel_rfl) (by kernel_rfl) p_tower_Build [.h (.sl (.i .i64)), .h (.sl (.i .i64))] [] [(.sl (.i .i64)), (.sl (.i .i64))] r_tower_Build false false [] (by kernel_rfl) (fun y => by kernel_rfl) (fun _ => ⟨rfl, rfl⟩) (fun y => by kernel_rfl) (m_tower_Build N) (fun x => by kernel_rfl)
/-! slices.Equal[[]int,int] -/
noncomputable def ct_slices_Equal_Lint_int (N : Nat) : List Ctr := []
def i_slices_Equal_Lint_int_1 : PS := ⟨[(0, .h (.sl (.i .i64))), (1, .h (.sl (.i .i64))), (12, .h (.i .i64)), (13, .h (.i .i64))], [], [(.sl (.i .i64)), (.sl (.i .i64)), (.i .i64), (.i .i64)]⟩
def o_slices_Equal_Lint_int_1 : List (Exit × PS) := [((.exit 0), ⟨[], [], []⟩), (.ret, ⟨[(4, .h .b)], [], [.b]⟩)]
def p_slices_Equal_Lint_int_1 : Pl := .z
noncomputable def l_slices_Equal_Lint_int_1 (N : Nat) : Nat → (List Int) × (List Int) × Int × Int → Option ((Unit) ⊕ (Bool)) := loopF (exC T (ct_slices_Equal_Lint_int N) N (codeAt [1, 1, 0, 1, 0, 0] (bodyOf Try.f57))) 26 i_slices_Equal_Lint_int_1 o_slices_Equal_Lint_int_1 p_slices_Equal_Lint_int_1
def p_slices_Equal_Lint_int : Pl := (.n .z (.n .z (.n (.n .z (.n (.loop i_slices_Equal_Lint_int_1 o_slices_Equal_Lint_int_1 p_slices_Equal_Lint_int_1) .z)) .z)))
def r_slices_Equal_Lint_int : PS := ⟨[(4, .h .b)], [], [.b]⟩
noncomputable def m_slices_Equal_Lint_int (N : Nat) : (List Int) × (List Int) → Option (Bool) := exF T ct_slices_Equal_Lint_int N (bodyOf Try.f57) 26 p_slices_Equal_Lint_int [.h (.sl (.i .i64)), .h (.sl (.i .i64))] [] [(.sl (.i .i64)), (.sl (.i .i64))] r_slices_Equal_Lint_int
noncomputable def c_slices_Equal_Lint_int (N : Nat) : Ctr := ⟨57, [.h (.sl (.i .i64)), .h (.sl (.i .i64))], [], [(.sl (.i .i64)), (.sl (.i .i64))], Tup r_slices_Equal_Lint_int.c, m_slices_Equal_Lint_int N, fun y _ k => k (resG T (mkPS 26 r_slices_Equal_Lint_int y) Try.f57.results.toList) (keepH' [] (mkPS 26 r_slices_Equal_Lint_int y).h), false, true⟩
theorem l_slices_Equal_Lint_int_1_z (N : Nat) (v : (List Int) × (List Int) × Int × Int) : l_slices_Equal_Lint_int_1 N 0 v = none := by kernel_rfl
theorem l_slices_Equal_Lint_int_1_s (N m : Nat) (s1 : (List Int)) (s2 : (List Int)) (v12 : Int) (v13 : Int) : l_slices_Equal_Lint_int_1 N (m + 1) (s1, s2, v12, v13) = cond (decide (v13 < v12))
   (obind (nthI s1 v13) fun z1 =>
    obind (nthI s2 v13) fun z2 =>
    cond (!(decide (z1 = z2)))
     (some (.inr false))
     ((l_slices_Equal_Lint_int_1 N m (s1, (s2, (v12, (IntKind.wrap .i64 (v13 + (1 : Int)))))))))
   (some (.inl ())) := by kernel_rfl
theorem m_slices_Equal_Lint_int_eq (N : Nat) (s1 : (List Int)) (s2 : (List Int)) : m_slices_Equal_Lint_int (N + 1) (s1, s2) = cond (!(decide ((((List.length s1) : Nat) : Int) = (((List.length s2) : Nat) : Int))))
   (some false)
   (obind (l_slices_Equal_Lint_int_1 N N (s1, (s2, ((((List.length s1) : Nat) : Int), (0 : Int))))) fun z1 =>
    (match z1 with
    | .inl zy2 => some true
    | .inr zy3 => some zy3)) := by kernel_rfl
theorem c_slices_Equal_Lint_int_ok (N : Nat) : (c_slices_Equal_Lint_int N).ok Try.prog := exF_ok (T := T) (CT := ct_slices_Equal_Lint_int) (N := N) (fun M => ⟨tOk, ctAll_nil, mixed⟩) Try.func57 (by kernel_rfl) (by kernel_rfl) p_slices_Equal_Lint_int [.h (.sl (.i .i64)), .h (.sl (.i .i64))] [] [(.sl (.i .i64)), (.sl (.i .i64))] r_slices_Equal_Lint_int false true [] (by kernel_rfl) (fun y => by kernel_rfl) (fun _ => ⟨rfl, rfl⟩) (fun y => by kernel_rfl) (m_slices_Equal_Lint_int N) (fun x => by kernel_rfl)
/-! slices.EqualFunc[[][]int,[][]int,[]int,[]int] -/
noncomputable def ct_slices_EqualFunc_LLint_LLint_Lint_Lint_slices_Equal_Lint_int (N : Nat) : List Ctr := [c_slices_Equal_Lint_int N]
def i_slices_EqualFunc_LLint_LLint_Lint_Lint_slices_Equal_Lint_int_1 : PS := ⟨[(1, .h (.sl (.sl (.i .i64)))), (2, .k (.v (.func (.func 57) #[] #[]))), (15, .h (.sl (.sl (.i .i64)))), (16, .h (.i .i64)), (17, .h (.i .i64))], [], [(.sl (.sl (.i .i64))), (.sl (.sl (.i .i64))), (.i .i64), (.i .i64)]⟩
def o_slices_EqualFunc_LLint_LLint_Lint_Lint_slices_Equal_Lint_int_1 : List (Exit × PS) := [((.exit 0), ⟨[], [], []⟩), (.ret, ⟨[(6, .h .b)], [], [.b]⟩)]
def p_slices_EqualFunc_LLint_LLint_Lint_Lint_slices_Equal_Lint_int_1 : Pl := .z
noncomputable def l_slices_EqualFunc_LLint_LLint_Lint_Lint_slices_Equal_Lint_int_1 (N : Nat) : Nat → (List (List Int)) × (List (List Int)) × Int × Int → Option ((Unit) ⊕ (Bool)) := loopF (exC T (ct_slices_EqualFunc_LLint_LLint_Lint_Lint_slices_Equal_Lint_int N) N (codeAt [1, 1, 0, 1, 0, 0] (bodyOf Try.f58))) 32 i_slices_EqualFunc_LLint_LLint_Lint_Lint_slices_Equal_Lint_int_1 o_slices_EqualFunc_LLint_LLint_Lint_Lint_slices_Equal_Lint_int_1 p_slices_EqualFunc_LLint_LLint_Lint_Lint_slices_Equal_Lint_int_1
def p_slices_EqualFunc_LLint_LLint_Lint_Lint_slices_Equal_Lint_int : Pl := (.n .z (.n .z (.n (.n .z (.n (.loop i_slices_EqualFunc_LLint_LLint_Lint_Lint_slices_Equal_Lint_int_1 o_slices_EqualFunc_LLint_LLint_Lint_Lint_slices_Equal_Lint_int_1 p_slices_EqualFunc_LLint_LLint_Lint_Lint_slices_Equal_Lint_int_1) .z)) .z)))
def r_slices_EqualFunc_LLint_LLint_Lint_Lint_slices_Equal_Lint_int : PS := ⟨[(6, .h .b)], [], [.b]⟩
noncomputable def m_slices_EqualFunc_LLint_LLint_Lint_Lint_slices_Equal_Lint_int (N : Nat) : (List (List Int)) × (List (List Int)) → Option (Bool) := exF T ct_slices_EqualFunc_LLint_LLint_Lint_Lint_slices_Equal_Lint_int N (bodyOf Try.f58) 32 p_slices_EqualFunc_LLint_LLint_Lint_Lint_slices_Equal_Lint_int [.h (.sl (.sl (.i .i64))), .h (.sl (.sl (.i .i64))), .k (.v (.func (.func 57) #[] #[]))] [] [(.sl (.sl (.i .i64))), (.sl (.sl (.i .i64)))] r_slices_EqualFunc_LLint_LLint_Lint_Lint_slices_Equal_Lint_int
noncomputable def c_slices_EqualFunc_LLint_LLint_Lint_Lint_slices_Equal_Lint_int (N : Nat) : Ctr := ⟨58, [.h (.sl (.sl (.i .i64))), .h (.sl (.sl (.i .i64))), .k (.v (.func (.func 57) #[] #[]))], [], [(.sl (.sl (.i .i64))), (.sl (.sl (.i .i64)))], Tup r_slices_EqualFunc_LLint_LLint_Lint_Lint_slices_Equal_Lint_int.c, m_slices_EqualFunc_LLint_LLint_Lint_Lint_slices_Equal_Lint_int N, fun y _ k => k (resG T (mkPS 32 r_slices_EqualFunc_LLint_LLint_Lint_Lint_slices_Equal_Lint_int y) Try.f58.results.toList) (keepH' [] (mkPS 32 r_slices_EqualFunc_LLint_LLint_Lint_Lint_slices_Equal_Lint_int y).h), false, true⟩
theorem l_slices_EqualFunc_LLint_LLint_Lint_Lint_slices_Equal_Lint_int_1_z (N : Nat) (v : (List (List Int)) × (List (List Int)) × Int × Int) : l_slices_EqualFunc_LLint_LLint_Lint_Lint_slices_Equal_Lint_int_1 N 0 v = none := by kernel_rfl
theorem l_slices_EqualFunc_LLint_LLint_Lint_Lint_slices_Equal_Lint_int_1_s (N m : Nat) (s2 : (List (List Int))) (v15 : (List (List Int))) (v16 : Int) (v17 : Int) : l_slices_EqualFunc_LLint_LLint_Lint_Lint_slices_Equal_Lint_int_1 N (m + 1) (s2, v15, v16, v17) = cond (decide (v17 < v16))
   (obind (nthI v15 v17) fun z1 =>
    obind (nthI s2 v17) fun z2 =>
    obind (m_slices_Equal_Lint_int N (z1, z2)) fun z3 =>
    cond (!z3)
     (some (.inr false))
     ((l_slices_EqualFunc_LLint_LLint_Lint_Lint_slices_Equal_Lint_int_1 N m (s2, (v15, (v16, (IntKind.wrap .i64 (v17 + (1 : Int)))))))))
   (some (.inl ())) := by kernel_rfl
theorem m_slices_EqualFunc_LLint_LLint_Lint_Lint_slices_Equal_Lint_int_eq (N : Nat) (s1 : (List (List Int))) (s2 : (List (List Int))) : m_slices_EqualFunc_LLint_LLint_Lint_Lint_slices_Equal_Lint_int (N + 1) (s1, s2) = cond (!(decide ((((List.length s1) : Nat) : Int) = (((List.length s2) : Nat) : Int))))
   (some false)
   (obind (l_slices_EqualFunc_LLint_LLint_Lint_Lint_slices_Equal_Lint_int_1 N N (s2, (s1, ((((List.length s1) : Nat) : Int), (0 : Int))))) fun z1 =>
    (match z1 with
    | .inl zy2 => some true
    | .inr zy3 => some zy3)) := by kernel_rfl
theorem c_slices_EqualFunc_LLint_LLint_Lint_Lint_slices_Equal_Lint_int_ok (N : Nat) : (c_slices_EqualFunc_LLint_LLint_Lint_Lint_slices_Equal_Lint_int N).ok Try.prog := exF_ok (T := T) (CT := ct_slices_EqualFunc_LLint_LLint_Lint_Lint_slices_Equal_Lint_int) (N := N) (fun M => ⟨tOk, (ctAll_cons (c_slices_Equal_Lint_int_ok M) ctAll_nil), mixed⟩) Try.func58 (by kernel_rfl) (by kernel_rfl) p_slices_EqualFunc_LLint_LLint_Lint_Lint_slices_Equal_Lint_int [.h (.sl (.sl (.i .i64))), .h (.sl (.sl (.i .i64))), .k (.v (.func (.func 57) #[] #[]))] [] [(.sl (.sl (.i .i64))), (.sl (.sl (.i .i64)))] r_slices_EqualFunc_LLint_LLint_Lint_Lint_slices_Equal_Lint_int false true [] (by kernel_rfl) (fun y => by kernel_rfl) (fun _ => ⟨rfl, rfl⟩) (fun y => by kernel_rfl) (m_slices_EqualFunc_LLint_LLint_Lint_Lint_slices_Equal_Lint_int N) (fun x => by kernel_rfl)
/-! archipelago/tower.Same -/
noncomputable def ct_tower_Same (N : Nat) : List Ctr := [c_slices_Equal_Lint_int N, c_slices_EqualFunc_LLint_LLint_Lint_Lint_slices_Equal_Lint_int N]
def p_tower_Same : Pl := .z
def r_tower_Same : PS := ⟨[(4, .h .b)], [], [.b]⟩
noncomputable def m_tower_Same (N : Nat) : (List Int) × (List Int) × (List (List Int)) × (List Int) × (List Int) × (List (List Int)) → Option (Bool) := exF T ct_tower_Same N (bodyOf Try.f45) 24 p_tower_Same [.ag [.h (.sl (.i .i64)), .h (.sl (.i .i64)), .h (.sl (.sl (.i .i64)))], .ag [.h (.sl (.i .i64)), .h (.sl (.i .i64)), .h (.sl (.sl (.i .i64)))]] [] [(.sl (.i .i64)), (.sl (.i .i64)), (.sl (.sl (.i .i64))), (.sl (.i .i64)), (.sl (.i .i64)), (.sl (.sl (.i .i64)))] r_tower_Same
noncomputable def c_tower_Same (N : Nat) : Ctr := ⟨45, [.ag [.h (.sl (.i .i64)), .h (.sl (.i .i64)), .h (.sl (.sl (.i .i64)))], .ag [.h (.sl (.i .i64)), .h (.sl (.i .i64)), .h (.sl (.sl (.i .i64)))]], [], [(.sl (.i .i64)), (.sl (.i .i64)), (.sl (.sl (.i .i64))), (.sl (.i .i64)), (.sl (.i .i64)), (.sl (.sl (.i .i64)))], Tup r_tower_Same.c, m_tower_Same N, fun y _ k => k (resG T (mkPS 24 r_tower_Same y) Try.f45.results.toList) (keepH' [] (mkPS 24 r_tower_Same y).h), false, true⟩
theorem m_tower_Same_eq (N : Nat) (a : (List Int)) (a2 : (List Int)) (a3 : (List (List Int))) (b : (List Int)) (b2 : (List Int)) (b3 : (List (List Int))) : m_tower_Same (N + 1) (a, a2, a3, b, b2, b3) = obind (m_slices_Equal_Lint_int N (a, b)) fun z1 =>
  cond z1
   (obind (m_slices_Equal_Lint_int N (a2, b2)) fun z2 =>
    cond z2
     (obind (m_slices_EqualFunc_LLint_LLint_Lint_Lint_slices_Equal_Lint_int N (a3, b3)) fun z3 =>
      some z3)
     (some false))
   (some false) := by kernel_rfl
theorem c_tower_Same_ok (N : Nat) : (c_tower_Same N).ok Try.prog := exF_ok (T := T) (CT := ct_tower_Same) (N := N) (fun M => ⟨tOk, (ctAll_cons (c_slices_Equal_Lint_int_ok M) (ctAll_cons (c_slices_EqualFunc_LLint_LLint_Lint_Lint_slices_Equal_Lint_int_ok M) ctAll_nil)), mixed⟩) Try.func45 (by kernel_rfl) (by kernel_rfl) p_tower_Same [.ag [.h (.sl (.i .i64)), .h (.sl (.i .i64)), .h (.sl (.sl (.i .i64)))], .ag [.h (.sl (.i .i64)), .h (.sl (.i .i64)), .h (.sl (.sl (.i .i64)))]] [] [(.sl (.i .i64)), (.sl (.i .i64)), (.sl (.sl (.i .i64))), (.sl (.i .i64)), (.sl (.i .i64)), (.sl (.sl (.i .i64)))] r_tower_Same false true [] (by kernel_rfl) (fun y => by kernel_rfl) (fun _ => ⟨rfl, rfl⟩) (fun y => by kernel_rfl) (m_tower_Same N) (fun x => by kernel_rfl)
/-! archipelago/tower.Right -/
noncomputable def ct_tower_Right (N : Nat) : List Ctr := [c_tower_Build N, c_tower_Same N]
def p_tower_Right : Pl := .z
def r_tower_Right : PS := ⟨[(2, .h .b)], [], [.b]⟩
noncomputable def m_tower_Right (N : Nat) : (List Int) × (List Int) × (List (List Int)) → Option (Bool) := exF T ct_tower_Right N (bodyOf Try.f28) 20 p_tower_Right [.ag [.h (.sl (.i .i64)), .h (.sl (.i .i64)), .h (.sl (.sl (.i .i64)))]] [] [(.sl (.i .i64)), (.sl (.i .i64)), (.sl (.sl (.i .i64)))] r_tower_Right
noncomputable def c_tower_Right (N : Nat) : Ctr := ⟨28, [.ag [.h (.sl (.i .i64)), .h (.sl (.i .i64)), .h (.sl (.sl (.i .i64)))]], [], [(.sl (.i .i64)), (.sl (.i .i64)), (.sl (.sl (.i .i64)))], Tup r_tower_Right.c, m_tower_Right N, fun y _ k => k (resG T (mkPS 20 r_tower_Right y) Try.f28.results.toList) (keepH' [] (mkPS 20 r_tower_Right y).h), false, true⟩
theorem m_tower_Right_eq (N : Nat) (t : (List Int)) (t2 : (List Int)) (t3 : (List (List Int))) : m_tower_Right (N + 1) (t, t2, t3) = obind (m_tower_Build N (t, t2)) fun z1 =>
  cond (decide (z1.1 = (0 : Int)))
   (obind (m_tower_Same N (z1.2.1, (z1.2.2.1, (z1.2.2.2, (t, (t2, t3)))))) fun z2 =>
    some z2)
   (some false) := by kernel_rfl
theorem c_tower_Right_ok (N : Nat) : (c_tower_Right N).ok Try.prog := exF_ok (T := T) (CT := ct_tower_Right) (N := N) (fun M => ⟨tOk, (ctAll_cons (c_tower_Build_ok M) (ctAll_cons (c_tower_Same_ok M) ctAll_nil)), mixed⟩) Try.func28 (by kernel_rfl) (by kernel_rfl) p_tower_Right [.ag [.h (.sl (.i .i64)), .h (.sl (.i .i64)), .h (.sl (.sl (.i .i64)))]] [] [(.sl (.i .i64)), (.sl (.i .i64)), (.sl (.sl (.i .i64)))] r_tower_Right false true [] (by kernel_rfl) (fun y => by kernel_rfl) (fun _ => ⟨rfl, rfl⟩) (fun y => by kernel_rfl) (m_tower_Right N) (fun x => by kernel_rfl)
/-! slices.Index[[]int,int] -/
noncomputable def ct_slices_Index_Lint_int (N : Nat) : List Ctr := []
def i_slices_Index_Lint_int_1 : PS := ⟨[(0, .h (.sl (.i .i64))), (1, .h (.i .i64)), (7, .h (.i .i64)), (8, .h (.i .i64))], [], [(.sl (.i .i64)), (.i .i64), (.i .i64), (.i .i64)]⟩
def o_slices_Index_Lint_int_1 : List (Exit × PS) := [((.exit 0), ⟨[], [], []⟩), (.ret, ⟨[(4, .h (.i .i64))], [], [(.i .i64)]⟩)]
def p_slices_Index_Lint_int_1 : Pl := .z
noncomputable def l_slices_Index_Lint_int_1 (N : Nat) : Nat → (List Int) × Int × Int × Int → Option ((Unit) ⊕ (Int)) := loopF (exC T (ct_slices_Index_Lint_int N) N (codeAt [1, 0, 1, 0, 0] (bodyOf Try.f39))) 19 i_slices_Index_Lint_int_1 o_slices_Index_Lint_int_1 p_slices_Index_Lint_int_1
def p_slices_Index_Lint_int : Pl := (.n .z (.n (.n .z (.n (.loop i_slices_Index_Lint_int_1 o_slices_Index_Lint_int_1 p_slices_Index_Lint_int_1) .z)) .z))
def r_slices_Index_Lint_int : PS := ⟨[(4, .h (.i .i64))], [], [(.i .i64)]⟩
noncomputable def m_slices_Index_Lint_int (N : Nat) : (List Int) × Int → Option (Int) := exF T ct_slices_Index_Lint_int N (bodyOf Try.f39) 19 p_slices_Index_Lint_int [.h (.sl (.i .i64)), .h (.i .i64)] [] [(.sl (.i .i64)), (.i .i64)] r_slices_Index_Lint_int
noncomputable def c_slices_Index_Lint_int (N : Nat) : Ctr := ⟨39, [.h (.sl (.i .i64)), .h (.i .i64)], [], [(.sl (.i .i64)), (.i .i64)], Tup r_slices_Index_Lint_int.c, m_slices_Index_Lint_int N, fun y _ k => k (resG T (mkPS 19 r_slices_Index_Lint_int y) Try.f39.results.toList) (keepH' [] (mkPS 19 r_slices_Index_Lint_int y).h), false, true⟩
theorem l_slices_Index_Lint_int_1_z (N : Nat) (v : (List Int) × Int × Int × Int) : l_slices_Index_Lint_int_1 N 0 v = none := by kernel_rfl
theorem l_slices_Index_Lint_int_1_s (N m : Nat) (s : (List Int)) (v : Int) (v7 : Int) (v8 : Int) : l_slices_Index_Lint_int_1 N (m + 1) (s, v, v7, v8) = cond (decide (v8 < v7))
   (obind (nthI s v8) fun z1 =>
    cond (decide (v = z1))
     (some (.inr v8))
     ((l_slices_Index_Lint_int_1 N m (s, (v, (v7, (IntKind.wrap .i64 (v8 + (1 : Int)))))))))
   (some (.inl ())) := by kernel_rfl
theorem m_slices_Index_Lint_int_eq (N : Nat) (s : (List Int)) (v : Int) : m_slices_Index_Lint_int (N + 1) (s, v) = obind (l_slices_Index_Lint_int_1 N N (s, (v, ((((List.length s) : Nat) : Int), (0 : Int))))) fun z1 =>
  (match z1 with
  | .inl zy2 => some (-(1 : Int))
  | .inr zy3 => some zy3) := by kernel_rfl
theorem c_slices_Index_Lint_int_ok (N : Nat) : (c_slices_Index_Lint_int N).ok Try.prog := exF_ok (T := T) (CT := ct_slices_Index_Lint_int) (N := N) (fun M => ⟨tOk, ctAll_nil, mixed⟩) Try.func39 (by kernel_rfl) (by kernel_rfl) p_slices_Index_Lint_int [.h (.sl (.i .i64)), .h (.i .i64)] [] [(.sl (.i .i64)), (.i .i64)] r_slices_Index_Lint_int false true [] (by kernel_rfl) (fun y => by kernel_rfl) (fun _ => ⟨rfl, rfl⟩) (fun y => by kernel_rfl) (m_slices_Index_Lint_int N) (fun x => by kernel_rfl)
/-! slices.Contains[[]int,int] -/
noncomputable def ct_slices_Contains_Lint_int (N : Nat) : List Ctr := [c_slices_Index_Lint_int N]
def p_slices_Contains_Lint_int : Pl := .z
def r_slices_Contains_Lint_int : PS := ⟨[(4, .h .b)], [], [.b]⟩
noncomputable def m_slices_Contains_Lint_int (N : Nat) : (List Int) × Int → Option (Bool) := exF T ct_slices_Contains_Lint_int N (bodyOf Try.f59) 9 p_slices_Contains_Lint_int [.h (.sl (.i .i64)), .h (.i .i64)] [] [(.sl (.i .i64)), (.i .i64)] r_slices_Contains_Lint_int
noncomputable def c_slices_Contains_Lint_int (N : Nat) : Ctr := ⟨59, [.h (.sl (.i .i64)), .h (.i .i64)], [], [(.sl (.i .i64)), (.i .i64)], Tup r_slices_Contains_Lint_int.c, m_slices_Contains_Lint_int N, fun y _ k => k (resG T (mkPS 9 r_slices_Contains_Lint_int y) Try.f59.results.toList) (keepH' [] (mkPS 9 r_slices_Contains_Lint_int y).h), false, true⟩
theorem m_slices_Contains_Lint_int_eq (N : Nat) (s : (List Int)) (v : Int) : m_slices_Contains_Lint_int (N + 1) (s, v) = obind (m_slices_Index_Lint_int N (s, v)) fun z1 =>
  some (decide ((0 : Int) ≤ z1)) := by kernel_rfl
theorem c_slices_Contains_Lint_int_ok (N : Nat) : (c_slices_Contains_Lint_int N).ok Try.prog := exF_ok (T := T) (CT := ct_slices_Contains_Lint_int) (N := N) (fun M => ⟨tOk, (ctAll_cons (c_slices_Index_Lint_int_ok M) ctAll_nil), mixed⟩) Try.func59 (by kernel_rfl) (by kernel_rfl) p_slices_Contains_Lint_int [.h (.sl (.i .i64)), .h (.i .i64)] [] [(.sl (.i .i64)), (.i .i64)] r_slices_Contains_Lint_int false true [] (by kernel_rfl) (fun y => by kernel_rfl) (fun _ => ⟨rfl, rfl⟩) (fun y => by kernel_rfl) (m_slices_Contains_Lint_int N) (fun x => by kernel_rfl)
/-! archipelago/ring.places -/
noncomputable def ct_ring_places (N : Nat) : List Ctr := [c_ring_Right N, c_slices_Index_Lint_int N, c_slices_Contains_Lint_int N]
def i_ring_places_1 : PS := ⟨[(0, .h (.sl (.i .i64))), (6, .k (.ow 900)), (12, .h (.sl (.i .i64))), (13, .h (.i .i64)), (14, .h (.i .i64))], [(900, .arr 3 (.i .i64) true)], [(.sl (.i .i64)), (.sl (.i .i64)), (.i .i64), (.i .i64), (.sl (.i .i64))]⟩
def o_ring_places_1 : List (Exit × PS) := [((.exit 0), ⟨[(6, .k (.ow 900))], [(900, .arr 3 (.i .i64) true)], [(.sl (.i .i64))]⟩)]
def p_ring_places_1 : Pl := .z
noncomputable def l_ring_places_1 (N : Nat) : Nat → (List Int) × (List Int) × Int × Int × (List Int) → Option ((List Int)) := loopF (exC T (ct_ring_places N) N (codeAt [1, 1, 1, 0, 1, 0, 0] (bodyOf Try.f46))) 29 i_ring_places_1 o_ring_places_1 p_ring_places_1
def p_ring_places : Pl := (.n .z (.n .z (.n .z (.n (.n .z (.n (.loop i_ring_places_1 o_ring_places_1 p_ring_places_1) .z)) .z))))
def r_ring_places : PS := ⟨[(4, .k (.ow 900)), (5, .h .b)], [(900, .arr 3 (.i .i64) true)], [.b, (.sl (.i .i64))]⟩
noncomputable def m_ring_places (N : Nat) : (List Int) × (List Int) → Option (Bool × (List Int)) := exF T ct_ring_places N (bodyOf Try.f46) 29 p_ring_places [.h (.sl (.i .i64)), .h (.sl (.i .i64))] [] [(.sl (.i .i64)), (.sl (.i .i64))] r_ring_places
noncomputable def c_ring_places (N : Nat) : Ctr := ⟨46, [.h (.sl (.i .i64)), .h (.sl (.i .i64))], [], [(.sl (.i .i64)), (.sl (.i .i64))], Tup r_ring_places.c, m_ring_places N, fun y _ k => k (resG T (mkPS 29 r_ring_places y) Try.f46.results.toList) (keepH' [900] (mkPS 29 r_ring_places y).h), true, true⟩
theorem l_ring_places_1_z (N : Nat) (v : (List Int) × (List Int) × Int × Int × (List Int)) : l_ring_places_1 N 0 v = none := by kernel_rfl
theorem l_ring_places_1_s (N m : Nat) (l : (List Int)) (v12 : (List Int)) (v13 : Int) (v14 : Int) (v6 : (List Int)) : l_ring_places_1 N (m + 1) (l, v12, v13, v14, v6) = cond (decide (v14 < v13))
   (obind (nthI v12 v14) fun z1 =>
    obind (m_slices_Index_Lint_int N (l, z1)) fun z2 =>
    obind (appI (8 : Nat) v6 [z2]) fun z3 =>
    (l_ring_places_1 N m (l, (v12, (v13, ((IntKind.wrap .i64 (v14 + (1 : Int))), z3))))))
   (some v6) := by kernel_rfl
theorem m_ring_places_eq (N : Nat) (l : (List Int)) (tokens : (List Int)) : m_ring_places (N + 1) (l, tokens) = obind (m_ring_Right N l) fun z1 =>
  cond (!z1)
   (some (false, []))
   (obind (l_ring_places_1 N N (l, (tokens, ((((List.length tokens) : Nat) : Int), ((0 : Int), []))))) fun z2 =>
    obind (m_slices_Contains_Lint_int N (z2, (-(1 : Int)))) fun z3 =>
    some ((!z3), z2)) := by kernel_rfl
theorem c_ring_places_ok (N : Nat) : (c_ring_places N).ok Try.prog := exF_ok (T := T) (CT := ct_ring_places) (N := N) (fun M => ⟨tOk, (ctAll_cons (c_ring_Right_ok M) (ctAll_cons (c_slices_Index_Lint_int_ok M) (ctAll_cons (c_slices_Contains_Lint_int_ok M) ctAll_nil))), mixed⟩) Try.func46 (by kernel_rfl) (by kernel_rfl) p_ring_places [.h (.sl (.i .i64)), .h (.sl (.i .i64))] [] [(.sl (.i .i64)), (.sl (.i .i64))] r_ring_places true true [900] (by kernel_rfl) (fun y => by kernel_rfl) (fun h => by cases h) (fun y => by kernel_rfl) (m_ring_places N) (fun x => by kernel_rfl)
/-! slices.Concat[[]int,int] -/
noncomputable def ct_slices_Concat_Lint_int (N : Nat) : List Ctr := [c_slices_Grow_Lint_int N]
def i_slices_Concat_Lint_int_2 : PS := ⟨[(6, .k (.ow 900)), (25, .h (.sl (.sl (.i .i64)))), (26, .h (.i .i64)), (27, .h (.i .i64))], [(900, .arr 3 (.i .i64) true)], [(.sl (.sl (.i .i64))), (.i .i64), (.i .i64), (.sl (.i .i64))]⟩
def o_slices_Concat_Lint_int_2 : List (Exit × PS) := [((.exit 2), ⟨[(6, .k (.ow 900))], [(900, .arr 3 (.i .i64) true)], [(.sl (.i .i64))]⟩)]
def p_slices_Concat_Lint_int_2 : Pl := .z
noncomputable def l_slices_Concat_Lint_int_2 (N : Nat) : Nat → (List (List Int)) × Int × Int × (List Int) → Option ((List Int)) := loopF (exC T (ct_slices_Concat_Lint_int N) N (codeAt [1, 1, 1, 1, 0, 1, 0, 0] (bodyOf Try.f51))) 36 i_slices_Concat_Lint_int_2 o_slices_Concat_Lint_int_2 p_slices_Concat_Lint_int_2
def i_slices_Concat_Lint_int_1 : PS := ⟨[(0, .h (.sl (.sl (.i .i64)))), (3, .h (.i .i64)), (9, .h (.sl (.sl (.i .i64)))), (10, .h (.i .i64)), (11, .h (.i .i64))], [], [(.sl (.sl (.i .i64))), (.i .i64), (.sl (.sl (.i .i64))), (.i .i64), (.i .i64)]⟩
def o_slices_Concat_Lint_int_1 : List (Exit × PS) := [((.exit 0), ⟨[(0, .h (.sl (.sl (.i .i64)))), (3, .h (.i .i64))], [], [(.sl (.sl (.i .i64))), (.i .i64)]⟩)]
def p_slices_Concat_Lint_int_1 : Pl := .z
noncomputable def l_slices_Concat_Lint_int_1 (N : Nat) : Nat → (List (List Int)) × Int × (List (List Int)) × Int × Int → Option ((List (List Int)) × Int) := loopF (exC T (ct_slices_Concat_Lint_int N) N (codeAt [1, 1, 0, 1, 0, 0] (bodyOf Try.f51))) 36 i_slices_Concat_Lint_int_1 o_slices_Concat_Lint_int_1 p_slices_Concat_Lint_int_1
def p_slices_Concat_Lint_int : Pl := (.n .z (.n .z (.n (.n .z (.n (.loop i_slices_Concat_Lint_int_1 o_slices_Concat_Lint_int_1 p_slices_Concat_Lint_int_1) .z)) (.n .z (.n (.n .z (.n (.loop i_slices_Concat_Lint_int_2 o_slices_Concat_Lint_int_2 p_slices_Concat_Lint_int_2) .z)) .z)))))
def r_slices_Concat_Lint_int : PS := ⟨[(2, .k (.ow 900))], [(900, .arr 3 (.i .i64) true)], [(.sl (.i .i64))]⟩
noncomputable def m_slices_Concat_Lint_int (N : Nat) : (List (List Int)) → Option ((List Int)) := exF T ct_slices_Concat_Lint_int N (bodyOf Try.f51) 36 p_slices_Concat_Lint_int [.h (.sl (.sl (.i .i64)))] [] [(.sl (.sl (.i .i64)))] r_slices_Concat_Lint_int
noncomputable def c_slices_Concat_Lint_int (N : Nat) : Ctr := ⟨51, [.h (.sl (.sl (.i .i64)))], [], [(.sl (.sl (.i .i64)))], Tup r_slices_Concat_Lint_int.c, m_slices_Concat_Lint_int N, fun y _ k => k (resG T (mkPS 36 r_slices_Concat_Lint_int y) Try.f51.results.toList) (keepH' [900] (mkPS 36 r_slices_Concat_Lint_int y).h), true, true⟩
theorem l_slices_Concat_Lint_int_2_z (N : Nat) (v : (List (List Int)) × Int × Int × (List Int)) : l_slices_Concat_Lint_int_2 N 0 v = none := by kernel_rfl
theorem l_slices_Concat_Lint_int_2_s (N m : Nat) (v25 : (List (List Int))) (v26 : Int) (v27 : Int) (newslice : (List Int)) : l_slices_Concat_Lint_int_2 N (m + 1) (v25, v26, v27, newslice) = cond (decide (v27 < v26))
   (obind (nthI v25 v27) fun z1 =>
    obind (appI (8 : Nat) newslice z1) fun z2 =>
    (l_slices_Concat_Lint_int_2 N m (v25, (v26, ((IntKind.wrap .i64 (v27 + (1 : Int))), z2)))))
   (some newslice) := by kernel_rfl
theorem l_slices_Concat_Lint_int_1_z (N : Nat) (v : (List (List Int)) × Int × (List (List Int)) × Int × Int) : l_slices_Concat_Lint_int_1 N 0 v = none := by kernel_rfl
theorem l_slices_Concat_Lint_int_1_s (N m : Nat) (slices : (List (List Int))) (size : Int) (v9 : (List (List Int))) (v10 : Int) (v11 : Int) : l_slices_Concat_Lint_int_1 N (m + 1) (slices, size, v9, v10, v11) = cond (decide (v11 < v10))
   (obind (nthI v9 v11) fun z1 =>
    cond (decide ((IntKind.wrap .i64 (size + (((List.length z1) : Nat) : Int))) < (0 : Int)))
     (none)
     ((l_slices_Concat_Lint_int_1 N m (slices, ((IntKind.wrap .i64 (size + (((List.length z1) : Nat) : Int))), (v9, (v10, (IntKind.wrap .i64 (v11 + (1 : Int))))))))))
   (some (slices, size)) := by kernel_rfl
theorem m_slices_Concat_Lint_int_eq (N : Nat) (slices : (List (List Int))) : m_slices_Concat_Lint_int (N + 1) (slices) = obind (l_slices_Concat_Lint_int_1 N N (slices, ((0 : Int), (slices, ((((List.length slices) : Nat) : Int), (0 : Int)))))) fun z1 =>
  obind (m_slices_Grow_Lint_int N z1.2) fun z2 =>
  obind (l_slices_Concat_Lint_int_2 N N (z1.1, ((((List.length z1.1) : Nat) : Int), ((0 : Int), [])))) fun z3 =>
  some z3 := by kernel_rfl
theorem c_slices_Concat_Lint_int_ok (N : Nat) : (c_slices_Concat_Lint_int N).ok Try.prog := exF_ok (T := T) (CT := ct_slices_Concat_Lint_int) (N := N) (fun M => ⟨tOk, (ctAll_cons (c_slices_Grow_Lint_int_ok M) ctAll_nil), mixed⟩) Try.func51 (by kernel_rfl) (by kernel_rfl) p_slices_Concat_Lint_int [.h (.sl (.sl (.i .i64)))] [] [(.sl (.sl (.i .i64)))] r_slices_Concat_Lint_int true true [900] (by kernel_rfl) (fun y => by kernel_rfl) (fun h => by cases h) (fun y => by kernel_rfl) (m_slices_Concat_Lint_int N) (fun x => by kernel_rfl)
/-! archipelago/ring.Cut -/
noncomputable def ct_ring_Cut (N : Nat) : List Ctr := [c_ring_places N, c_slices_Concat_Lint_int N, c_slices_Clone_Lint_int N]
def p_ring_Cut : Pl := .z
def r_ring_Cut : PS := ⟨[(6, .k (.ow 900)), (7, .k (.ow 901)), (8, .h .b)], [(900, .arr 3 (.i .i64) true), (901, .arr 3 (.i .i64) true)], [.b, (.sl (.i .i64)), (.sl (.i .i64))]⟩
noncomputable def m_ring_Cut (N : Nat) : (List Int) × Int × Int → Option (Bool × (List Int) × (List Int)) := exF T ct_ring_Cut N (bodyOf Try.f34) 59 p_ring_Cut [.h (.sl (.i .i64)), .h (.i .i64), .h (.i .i64)] [] [(.sl (.i .i64)), (.i .i64), (.i .i64)] r_ring_Cut
noncomputable def c_ring_Cut (N : Nat) : Ctr := ⟨34, [.h (.sl (.i .i64)), .h (.i .i64), .h (.i .i64)], [], [(.sl (.i .i64)), (.i .i64), (.i .i64)], Tup r_ring_Cut.c, m_ring_Cut N, fun y _ k => k (resG T (mkPS 59 r_ring_Cut y) Try.f34.results.toList) (keepH' [900, 901] (mkPS 59 r_ring_Cut y).h), true, true⟩
theorem m_ring_Cut_eq (N : Nat) (l : (List Int)) (x : Int) (y : Int) : m_ring_Cut (N + 1) (l, x, y) = obind (m_ring_places N (l, [x, y])) fun z1 =>
  cond (!z1.1)
   (some (false, ([], [])))
   (obind (nthI z1.2 (0 : Int)) fun z2 =>
    obind (nthI z1.2 (0 : Int)) fun z3 =>
    obind (nthI z1.2 (1 : Int)) fun z4 =>
    obind (nthI z1.2 (1 : Int)) fun z5 =>
    cond (decide ((IntKind.wrap .i64 (z3 + (1 : Int))) < (IntKind.wrap .i64 (z5 + (1 : Int)))))
     (obind (subI l (0 : Int) (IntKind.wrap .i64 (z3 + (1 : Int)))) fun z6 =>
      obind (subI l (IntKind.wrap .i64 (z5 + (1 : Int))) (((List.length l) : Nat) : Int)) fun z7 =>
      obind (m_slices_Concat_Lint_int N [z6, z7]) fun z8 =>
      obind (subI l (IntKind.wrap .i64 (z3 + (1 : Int))) (IntKind.wrap .i64 (z5 + (1 : Int)))) fun z9 =>
      obind (m_slices_Clone_Lint_int N z9) fun z10 =>
      some (true, (z8, z10)))
     (obind (subI l (IntKind.wrap .i64 (z5 + (1 : Int))) (IntKind.wrap .i64 (z3 + (1 : Int)))) fun z11 =>
      obind (m_slices_Clone_Lint_int N z11) fun z12 =>
      obind (subI l (IntKind.wrap .i64 (z3 + (1 : Int))) (((List.length l) : Nat) : Int)) fun z13 =>
      obind (subI l (0 : Int) (IntKind.wrap .i64 (z5 + (1 : Int)))) fun z14 =>
      obind (m_slices_Concat_Lint_int N [z13, z14]) fun z15 =>
      some (true, (z12, z15)))) := by kernel_rfl
theorem c_ring_Cut_ok (N : Nat) : (c_ring_Cut N).ok Try.prog := exF_ok (T := T) (CT := ct_ring_Cut) (N := N) (fun M => ⟨tOk, (ctAll_cons (c_ring_places_ok M) (ctAll_cons (c_slices_Concat_Lint_int_ok M) (ctAll_cons (c_slices_Clone_Lint_int_ok M) ctAll_nil))), mixed⟩) Try.func34 (by kernel_rfl) (by kernel_rfl) p_ring_Cut [.h (.sl (.i .i64)), .h (.i .i64), .h (.i .i64)] [] [(.sl (.i .i64)), (.i .i64), (.i .i64)] r_ring_Cut true true [900, 901] (by kernel_rfl) (fun y => by kernel_rfl) (fun h => by cases h) (fun y => by kernel_rfl) (m_ring_Cut N) (fun x => by kernel_rfl)
/-! archipelago/splice.heights -/
noncomputable def ct_splice_heights (N : Nat) : List Ctr := []
def i_splice_heights_2 : PS := ⟨[(3, .k (.mp 900)), (5, .k (.pt 901 0)), (9, .h (.sl (.pr (.sl (.i .i64)) (.pr (.sl (.i .i64)) (.sl (.sl (.i .i64))))))), (10, .h (.i .i64)), (11, .h (.i .i64)), (16, .h (.sl (.i .i64))), (17, .h (.i .i64)), (18, .h (.i .i64))], [(900, .mp (.int .i64) (.i .i64) (.i .i64)), (901, .box 25 [.h (.sl (.i .i64)), .h (.sl (.i .i64)), .h (.sl (.sl (.i .i64)))])], [(.sl (.pr (.sl (.i .i64)) (.pr (.sl (.i .i64)) (.sl (.sl (.i .i64)))))), (.i .i64), (.i .i64), (.sl (.i .i64)), (.i .i64), (.i .i64), (.sl (.pr (.i .i64) (.i .i64))), (.sl (.i .i64)), (.sl (.i .i64)), (.sl (.sl (.i .i64)))]⟩
def o_splice_heights_2 : List (Exit × PS) := [((.exit 2), ⟨[(3, .k (.mp 900)), (9, .h (.sl (.pr (.sl (.i .i64)) (.pr (.sl (.i .i64)) (.sl (.sl (.i .i64))))))), (10, .h (.i .i64)), (11, .h (.i .i64))], [(900, .mp (.int .i64) (.i .i64) (.i .i64))], [(.sl (.pr (.sl (.i .i64)) (.pr (.sl (.i .i64)) (.sl (.sl (.i .i64)))))), (.i .i64), (.i .i64), (.sl (.pr (.i .i64) (.i .i64)))]⟩)]
def p_splice_heights_2 : Pl := .z
noncomputable def l_splice_heights_2 (N : Nat) : Nat → (List ((List Int) × ((List Int) × (List (List Int))))) × Int × Int × (List Int) × Int × Int × (List (Int × Int)) × (List Int) × (List Int) × (List (List Int)) → Option ((List ((List Int) × ((List Int) × (List (List Int))))) × Int × Int × (List (Int × Int))) := loopF (exC T (ct_splice_heights N) N (codeAt [1, 1, 0, 1, 0, 0, 1, 1, 0, 0, 1, 1, 0, 0] (bodyOf Try.f31))) 33 i_splice_heights_2 o_splice_heights_2 p_splice_heights_2
def i_splice_heights_1 : PS := ⟨[(3, .k (.mp 900)), (9, .h (.sl (.pr (.sl (.i .i64)) (.pr (.sl (.i .i64)) (.sl (.sl (.i .i64))))))), (10, .h (.i .i64)), (11, .h (.i .i64))], [(900, .mp (.int .i64) (.i .i64) (.i .i64))], [(.sl (.pr (.sl (.i .i64)) (.pr (.sl (.i .i64)) (.sl (.sl (.i .i64)))))), (.i .i64), (.i .i64), (.sl (.pr (.i .i64) (.i .i64)))]⟩
def o_splice_heights_1 : List (Exit × PS) := [((.exit 0), ⟨[(3, .k (.mp 900))], [(900, .mp (.int .i64) (.i .i64) (.i .i64))], [(.sl (.pr (.i .i64) (.i .i64)))]⟩)]
def p_splice_heights_1 : Pl := (.n .z (.n .z (.n (.n (.n .z (.n .z (.n (.loop i_splice_heights_2 o_splice_heights_2 p_splice_heights_2) .z))) .z) .z)))
noncomputable def l_splice_heights_1 (N : Nat) : Nat → (List ((List Int) × ((List Int) × (List (List Int))))) × Int × Int × (List (Int × Int)) → Option ((List (Int × Int))) := loopF (exC T (ct_splice_heights N) N (codeAt [1, 1, 0, 1, 0, 0] (bodyOf Try.f31))) 33 i_splice_heights_1 o_splice_heights_1 p_splice_heights_1
def p_splice_heights : Pl := (.n .z (.n .z (.n (.n .z (.n (.loop i_splice_heights_1 o_splice_heights_1 p_splice_heights_1) .z)) .z)))
def r_splice_heights : PS := ⟨[(2, .k (.mp 900))], [(900, .mp (.int .i64) (.i .i64) (.i .i64))], [(.sl (.pr (.i .i64) (.i .i64)))]⟩
noncomputable def m_splice_heights (N : Nat) : (List ((List Int) × ((List Int) × (List (List Int))))) → Option ((List (Int × Int))) := exF T ct_splice_heights N (bodyOf Try.f31) 33 p_splice_heights [.h (.sl (.pr (.sl (.i .i64)) (.pr (.sl (.i .i64)) (.sl (.sl (.i .i64))))))] [] [(.sl (.pr (.sl (.i .i64)) (.pr (.sl (.i .i64)) (.sl (.sl (.i .i64))))))] r_splice_heights
noncomputable def c_splice_heights (N : Nat) : Ctr := ⟨31, [.h (.sl (.pr (.sl (.i .i64)) (.pr (.sl (.i .i64)) (.sl (.sl (.i .i64))))))], [], [(.sl (.pr (.sl (.i .i64)) (.pr (.sl (.i .i64)) (.sl (.sl (.i .i64))))))], Tup r_splice_heights.c, m_splice_heights N, fun y _ k => k (resG T (mkPS 33 r_splice_heights y) Try.f31.results.toList) (keepH' [900] (mkPS 33 r_splice_heights y).h), true, true⟩
theorem l_splice_heights_2_z (N : Nat) (v : (List ((List Int) × ((List Int) × (List (List Int))))) × Int × Int × (List Int) × Int × Int × (List (Int × Int)) × (List Int) × (List Int) × (List (List Int))) : l_splice_heights_2 N 0 v = none := by kernel_rfl
theorem l_splice_heights_2_s (N m : Nat) (v9 : (List ((List Int) × ((List Int) × (List (List Int)))))) (v10 : Int) (v11 : Int) (v16 : (List Int)) (v17 : Int) (v18 : Int) (v3 : (List (Int × Int))) (t : (List Int)) (t2 : (List Int)) (t3 : (List (List Int))) : l_splice_heights_2 N (m + 1) (v9, v10, v11, v16, v17, v18, v3, t, t2, t3) = cond (decide (v18 < v17))
   (obind (nthI v16 v18) fun z1 =>
    obind (nthI t2 v18) fun z2 =>
    (l_splice_heights_2 N m (v9, (v10, (v11, (v16, (v17, ((IntKind.wrap .i64 (v18 + (1 : Int))), ((mput (.i .i64) v3 z1 z2), (t, (t2, t3)))))))))))
   (some (v9, (v10, (v11, v3)))) := by kernel_rfl
theorem l_splice_heights_1_z (N : Nat) (v : (List ((List Int) × ((List Int) × (List (List Int))))) × Int × Int × (List (Int × Int))) : l_splice_heights_1 N 0 v = none := by kernel_rfl
theorem l_splice_heights_1_s (N m : Nat) (v9 : (List ((List Int) × ((List Int) × (List (List Int)))))) (v10 : Int) (v11 : Int) (v3 : (List (Int × Int))) : l_splice_heights_1 N (m + 1) (v9, v10, v11, v3) = cond (decide (v11 < v10))
   (obind (nthI v9 v11) fun z1 =>
    obind (l_splice_heights_2 N N (v9, (v10, (v11, (z1.1, ((((List.length z1.1) : Nat) : Int), ((0 : Int), (v3, (z1.1, (z1.2.1, z1.2.2)))))))))) fun z2 =>
    (l_splice_heights_1 N m (z2.1, (z2.2.1, ((IntKind.wrap .i64 (z2.2.2.1 + (1 : Int))), z2.2.2.2)))))
   (some v3) := by kernel_rfl
theorem m_splice_heights_eq (N : Nat) (towers : (List ((List Int) × ((List Int) × (List (List Int)))))) : m_splice_heights (N + 1) (towers) = obind (l_splice_heights_1 N N (towers, ((((List.length towers) : Nat) : Int), ((0 : Int), [])))) fun z1 =>
  some z1 := by kernel_rfl
theorem c_splice_heights_ok (N : Nat) : (c_splice_heights N).ok Try.prog := exF_ok (T := T) (CT := ct_splice_heights) (N := N) (fun M => ⟨tOk, ctAll_nil, mixed⟩) Try.func31 (by kernel_rfl) (by kernel_rfl) p_splice_heights [.h (.sl (.pr (.sl (.i .i64)) (.pr (.sl (.i .i64)) (.sl (.sl (.i .i64))))))] [] [(.sl (.pr (.sl (.i .i64)) (.pr (.sl (.i .i64)) (.sl (.sl (.i .i64))))))] r_splice_heights true true [900] (by kernel_rfl) (fun y => by kernel_rfl) (fun h => by cases h) (fun y => by kernel_rfl) (m_splice_heights N) (fun x => by kernel_rfl)
/-! archipelago/splice.built -/
noncomputable def ct_splice_built_m (N : Nat) : List Ctr := [c_tower_Build N]
def i_splice_built_m_1 : PS := ⟨[(0, .h (.sl (.i .i64))), (1, .k (.mp 4294967296)), (4, .k (.pt 900 0)), (5, .k (.ow 901)), (10, .h (.sl (.i .i64))), (11, .h (.i .i64)), (12, .h (.i .i64))], [(4294967296, .mp (.int .i64) (.i .i64) (.i .i64)), (900, .box 25 [.k .nil, .k .nil, .k .nil]), (901, .arr 3 (.i .i64) true)], [(.sl (.i .i64)), (.sl (.i .i64)), (.i .i64), (.i .i64), (.sl (.pr (.i .i64) (.i .i64))), (.sl (.i .i64))]⟩
def o_splice_built_m_1 : List (Exit × PS) := [((.exit 0), ⟨[(0, .h (.sl (.i .i64))), (4, .k (.pt 900 0)), (5, .k (.ow 901))], [(900, .box 25 [.k .nil, .k .nil, .k .nil]), (901, .arr 3 (.i .i64) true), (4294967296, .mp (.int .i64) (.i .i64) (.i .i64))], [(.sl (.i .i64)), (.sl (.i .i64)), (.sl (.pr (.i .i64) (.i .i64)))]⟩)]
def p_splice_built_m_1 : Pl := .z
noncomputable def l_splice_built_m_1 (N : Nat) : Nat → (List Int) × (List Int) × Int × Int × (List (Int × Int)) × (List Int) → Option ((List Int) × (List Int) × (List (Int × Int))) := loopF (exC T (ct_splice_built_m N) N (codeAt [1, 1, 0, 1, 0, 0] (bodyOf Try.f30))) 30 i_splice_built_m_1 o_splice_built_m_1 p_splice_built_m_1
def p_splice_built_m : Pl := (.n .z (.n .z (.n (.n .z (.n (.loop i_splice_built_m_1 o_splice_built_m_1 p_splice_built_m_1) .z)) .z)))
def r_splice_built_m : PS := ⟨[(4, .k (.pt 900 0))], [(900, .box 25 [.h (.sl (.i .i64)), .h (.sl (.i .i64)), .h (.sl (.sl (.i .i64)))]), (4294967296, .mp (.int .i64) (.i .i64) (.i .i64))], [(.sl (.i .i64)), (.sl (.i .i64)), (.sl (.sl (.i .i64))), (.sl (.pr (.i .i64) (.i .i64)))]⟩
noncomputable def m_splice_built_m (N : Nat) : (List Int) × (List (Int × Int)) → Option ((List Int) × (List Int) × (List (List Int)) × (List (Int × Int))) := exF T ct_splice_built_m N (bodyOf Try.f30) 30 p_splice_built_m [.h (.sl (.i .i64)), .k (.mp 4294967296)] [(4294967296, .mp (.int .i64) (.i .i64) (.i .i64))] [(.sl (.i .i64)), (.sl (.pr (.i .i64) (.i .i64)))] r_splice_built_m
noncomputable def c_splice_built_m (N : Nat) : Ctr := ⟨30, [.h (.sl (.i .i64)), .k (.mp 4294967296)], [(4294967296, .mp (.int .i64) (.i .i64) (.i .i64))], [(.sl (.i .i64)), (.sl (.pr (.i .i64) (.i .i64)))], Tup r_splice_built_m.c, m_splice_built_m N, fun y _ k => k (resG T (mkPS 30 r_splice_built_m y) Try.f30.results.toList) (keepH' [4294967296] (mkPS 30 r_splice_built_m y).h), true, false⟩
theorem l_splice_built_m_1_z (N : Nat) (v : (List Int) × (List Int) × Int × Int × (List (Int × Int)) × (List Int)) : l_splice_built_m_1 N 0 v = none := by kernel_rfl
theorem l_splice_built_m_1_s (N m : Nat) (tokens : (List Int)) (v10 : (List Int)) (v11 : Int) (v12 : Int) (known : (List (Int × Int))) (l : (List Int)) : l_splice_built_m_1 N (m + 1) (tokens, v10, v11, v12, known, l) = cond (decide (v12 < v11))
   (obind (nthI v10 v12) fun z1 =>
    obind (appI (8 : Nat) l [(Option.getD (mget (.i .i64) known z1) (0 : Int))]) fun z2 =>
    (l_splice_built_m_1 N m (tokens, (v10, (v11, ((IntKind.wrap .i64 (v12 + (1 : Int))), (known, z2)))))))
   (some (tokens, (l, known))) := by kernel_rfl
theorem m_splice_built_m_eq (N : Nat) (tokens : (List Int)) (known : (List (Int × Int))) : m_splice_built_m (N + 1) (tokens, known) = obind (l_splice_built_m_1 N N (tokens, (tokens, ((((List.length tokens) : Nat) : Int), ((0 : Int), (known, [])))))) fun z1 =>
  obind (m_tower_Build N (z1.1, z1.2.1)) fun z2 =>
  some (z2.2.1, (z2.2.2.1, (z2.2.2.2, z1.2.2))) := by kernel_rfl
theorem c_splice_built_m_ok (N : Nat) : (c_splice_built_m N).ok Try.prog := exF_ok (T := T) (CT := ct_splice_built_m) (N := N) (fun M => ⟨tOk, (ctAll_cons (c_tower_Build_ok M) ctAll_nil), mixed⟩) Try.func30 (by kernel_rfl) (by kernel_rfl) p_splice_built_m [.h (.sl (.i .i64)), .k (.mp 4294967296)] [(4294967296, .mp (.int .i64) (.i .i64) (.i .i64))] [(.sl (.i .i64)), (.sl (.pr (.i .i64) (.i .i64)))] r_splice_built_m true false [4294967296] (by kernel_rfl) (fun y => by kernel_rfl) (fun h => by cases h) (fun y => by kernel_rfl) (m_splice_built_m N) (fun x => by kernel_rfl)
/-! archipelago/splice.Cut -/
noncomputable def ct_splice_Cut (N : Nat) : List Ctr := [c_tower_Right N, c_ring_Cut N, c_splice_heights N, c_splice_built_m N]
def p_splice_Cut : Pl := .z
def r_splice_Cut : PS := ⟨[(6, .k (.pt 900 0)), (7, .k (.pt 901 0)), (8, .h .b)], [(900, .box 25 [.h (.sl (.i .i64)), .h (.sl (.i .i64)), .h (.sl (.sl (.i .i64)))]), (901, .box 25 [.h (.sl (.i .i64)), .h (.sl (.i .i64)), .h (.sl (.sl (.i .i64)))])], [.b, (.sl (.i .i64)), (.sl (.i .i64)), (.sl (.sl (.i .i64))), (.sl (.i .i64)), (.sl (.i .i64)), (.sl (.sl (.i .i64)))]⟩
noncomputable def m_splice_Cut (N : Nat) : (List Int) × (List Int) × (List (List Int)) × Int × Int → Option (Bool × (List Int) × (List Int) × (List (List Int)) × (List Int) × (List Int) × (List (List Int))) := exF T ct_splice_Cut N (bodyOf Try.f13) 44 p_splice_Cut [.ag [.h (.sl (.i .i64)), .h (.sl (.i .i64)), .h (.sl (.sl (.i .i64)))], .h (.i .i64), .h (.i .i64)] [] [(.sl (.i .i64)), (.sl (.i .i64)), (.sl (.sl (.i .i64))), (.i .i64), (.i .i64)] r_splice_Cut
noncomputable def c_splice_Cut (N : Nat) : Ctr := ⟨13, [.ag [.h (.sl (.i .i64)), .h (.sl (.i .i64)), .h (.sl (.sl (.i .i64)))], .h (.i .i64), .h (.i .i64)], [], [(.sl (.i .i64)), (.sl (.i .i64)), (.sl (.sl (.i .i64))), (.i .i64), (.i .i64)], Tup r_splice_Cut.c, m_splice_Cut N, fun y _ k => k (resG T (mkPS 44 r_splice_Cut y) Try.f13.results.toList) (keepH' [] (mkPS 44 r_splice_Cut y).h), false, false⟩
theorem m_splice_Cut_eq (N : Nat) (t : (List Int)) (t2 : (List Int)) (t3 : (List (List Int))) (x : Int) (y : Int) : m_splice_Cut (N + 1) (t, t2, t3, x, y) = obind (m_tower_Right N (t, (t2, t3))) fun z1 =>
  cond (!z1)
   (some (false, ([], ([], ([], ([], ([], [])))))))
   (obind (m_ring_Cut N (t, (x, y))) fun z2 =>
    cond (!z2.1)
     (some (false, ([], ([], ([], ([], ([], [])))))))
     (cond (decide ((((List.length z2.2.1) : Nat) : Int) = (0 : Int)))
       (some (false, ([], ([], ([], ([], ([], [])))))))
       (obind (m_splice_heights N [(t, (t2, t3))]) fun z3 =>
        obind (m_splice_built_m N (z2.2.1, z3)) fun z4 =>
        obind (m_splice_built_m N (z2.2.2, z4.2.2.2)) fun z5 =>
        some (true, (z4.1, (z4.2.1, (z4.2.2.1, (z5.1, (z5.2.1, z5.2.2.1))))))))) := by kernel_rfl
theorem c_splice_Cut_ok (N : Nat) : (c_splice_Cut N).ok Try.prog := exF_ok (T := T) (CT := ct_splice_Cut) (N := N) (fun M => ⟨tOk, (ctAll_cons (c_tower_Right_ok M) (ctAll_cons (c_ring_Cut_ok M) (ctAll_cons (c_splice_heights_ok M) (ctAll_cons (c_splice_built_m_ok M) ctAll_nil)))), mixed⟩) Try.func13 (by kernel_rfl) (by kernel_rfl) p_splice_Cut [.ag [.h (.sl (.i .i64)), .h (.sl (.i .i64)), .h (.sl (.sl (.i .i64)))], .h (.i .i64), .h (.i .i64)] [] [(.sl (.i .i64)), (.sl (.i .i64)), (.sl (.sl (.i .i64))), (.i .i64), (.i .i64)] r_splice_Cut false false [] (by kernel_rfl) (fun y => by kernel_rfl) (fun _ => ⟨rfl, rfl⟩) (fun y => by kernel_rfl) (m_splice_Cut N) (fun x => by kernel_rfl)
/-! archipelago/ring.turned -/
noncomputable def ct_ring_turned (N : Nat) : List Ctr := [c_slices_Concat_Lint_int N]
def p_ring_turned : Pl := .z
def r_ring_turned : PS := ⟨[(4, .k (.ow 900))], [(900, .arr 3 (.i .i64) true)], [(.sl (.i .i64))]⟩
noncomputable def m_ring_turned (N : Nat) : (List Int) × Int → Option ((List Int)) := exF T ct_ring_turned N (bodyOf Try.f53) 13 p_ring_turned [.h (.sl (.i .i64)), .h (.i .i64)] [] [(.sl (.i .i64)), (.i .i64)] r_ring_turned
noncomputable def c_ring_turned (N : Nat) : Ctr := ⟨53, [.h (.sl (.i .i64)), .h (.i .i64)], [], [(.sl (.i .i64)), (.i .i64)], Tup r_ring_turned.c, m_ring_turned N, fun y _ k => k (resG T (mkPS 13 r_ring_turned y) Try.f53.results.toList) (keepH' [900] (mkPS 13 r_ring_turned y).h), true, true⟩
theorem m_ring_turned_eq (N : Nat) (l : (List Int)) (place : Int) : m_ring_turned (N + 1) (l, place) = obind (subI l place (((List.length l) : Nat) : Int)) fun z1 =>
  obind (subI l (0 : Int) place) fun z2 =>
  obind (m_slices_Concat_Lint_int N [z1, z2]) fun z3 =>
  some z3 := by kernel_rfl
theorem c_ring_turned_ok (N : Nat) : (c_ring_turned N).ok Try.prog := exF_ok (T := T) (CT := ct_ring_turned) (N := N) (fun M => ⟨tOk, (ctAll_cons (c_slices_Concat_Lint_int_ok M) ctAll_nil), mixed⟩) Try.func53 (by kernel_rfl) (by kernel_rfl) p_ring_turned [.h (.sl (.i .i64)), .h (.i .i64)] [] [(.sl (.i .i64)), (.i .i64)] r_ring_turned true true [900] (by kernel_rfl) (fun y => by kernel_rfl) (fun h => by cases h) (fun y => by kernel_rfl) (m_ring_turned N) (fun x => by kernel_rfl)
/-! archipelago/ring.From -/
noncomputable def ct_ring_From (N : Nat) : List Ctr := [c_ring_places N, c_ring_turned N]
def p_ring_From : Pl := .z
def r_ring_From : PS := ⟨[(4, .k (.ow 900)), (5, .h .b)], [(900, .arr 3 (.i .i64) true)], [.b, (.sl (.i .i64))]⟩
noncomputable def m_ring_From (N : Nat) : (List Int) × Int → Option (Bool × (List Int)) := exF T ct_ring_From N (bodyOf Try.f36) 22 p_ring_From [.h (.sl (.i .i64)), .h (.i .i64)] [] [(.sl (.i .i64)), (.i .i64)] r_ring_From
noncomputable def c_ring_From (N : Nat) : Ctr := ⟨36, [.h (.sl (.i .i64)), .h (.i .i64)], [], [(.sl (.i .i64)), (.i .i64)], Tup r_ring_From.c, m_ring_From N, fun y _ k => k (resG T (mkPS 22 r_ring_From y) Try.f36.results.toList) (keepH' [900] (mkPS 22 r_ring_From y).h), true, true⟩
theorem m_ring_From_eq (N : Nat) (l : (List Int)) (token : Int) : m_ring_From (N + 1) (l, token) = obind (m_ring_places N (l, [token])) fun z1 =>
  cond (!z1.1)
   (some (false, []))
   (obind (nthI z1.2 (0 : Int)) fun z2 =>
    obind (nthI z1.2 (0 : Int)) fun z3 =>
    obind (m_ring_turned N (l, z3)) fun z4 =>
    some (true, z4)) := by kernel_rfl
theorem c_ring_From_ok (N : Nat) : (c_ring_From N).ok Try.prog := exF_ok (T := T) (CT := ct_ring_From) (N := N) (fun M => ⟨tOk, (ctAll_cons (c_ring_places_ok M) (ctAll_cons (c_ring_turned_ok M) ctAll_nil)), mixed⟩) Try.func36 (by kernel_rfl) (by kernel_rfl) p_ring_From [.h (.sl (.i .i64)), .h (.i .i64)] [] [(.sl (.i .i64)), (.i .i64)] r_ring_From true true [900] (by kernel_rfl) (fun y => by kernel_rfl) (fun h => by cases h) (fun y => by kernel_rfl) (m_ring_From N) (fun x => by kernel_rfl)
/-! slices.Min[[]int,int] -/
noncomputable def ct_slices_Min_Lint_int (N : Nat) : List Ctr := []
def i_slices_Min_Lint_int_1 : PS := ⟨[(0, .h (.sl (.i .i64))), (3, .h (.i .i64)), (4, .h (.i .i64))], [], [(.sl (.i .i64)), (.i .i64), (.i .i64)]⟩
def o_slices_Min_Lint_int_1 : List (Exit × PS) := [((.exit 0), ⟨[(3, .h (.i .i64))], [], [(.i .i64)]⟩)]
def p_slices_Min_Lint_int_1 : Pl := .z
noncomputable def l_slices_Min_Lint_int_1 (N : Nat) : Nat → (List Int) × Int × Int → Option (Int) := loopF (exC T (ct_slices_Min_Lint_int N) N (codeAt [1, 1, 1, 0, 1, 0, 0] (bodyOf Try.f60))) 25 i_slices_Min_Lint_int_1 o_slices_Min_Lint_int_1 p_slices_Min_Lint_int_1
def p_slices_Min_Lint_int : Pl := (.n .z (.n .z (.n .z (.n (.n .z (.n (.loop i_slices_Min_Lint_int_1 o_slices_Min_Lint_int_1 p_slices_Min_Lint_int_1) .z)) .z))))
def r_slices_Min_Lint_int : PS := ⟨[(2, .h (.i .i64))], [], [(.i .i64)]⟩
noncomputable def m_slices_Min_Lint_int (N : Nat) : (List Int) → Option (Int) := exF T ct_slices_Min_Lint_int N (bodyOf Try.f60) 25 p_slices_Min_Lint_int [.h (.sl (.i .i64))] [] [(.sl (.i .i64))] r_slices_Min_Lint_int
noncomputable def c_slices_Min_Lint_int (N : Nat) : Ctr := ⟨60, [.h (.sl (.i .i64))], [], [(.sl (.i .i64))], Tup r_slices_Min_Lint_int.c, m_slices_Min_Lint_int N, fun y _ k => k (resG T (mkPS 25 r_slices_Min_Lint_int y) Try.f60.results.toList) (keepH' [] (mkPS 25 r_slices_Min_Lint_int y).h), false, true⟩
theorem l_slices_Min_Lint_int_1_z (N : Nat) (v : (List Int) × Int × Int) : l_slices_Min_Lint_int_1 N 0 v = none := by kernel_rfl
theorem l_slices_Min_Lint_int_1_s (N m : Nat) (x : (List Int)) (v3 : Int) (i : Int) : l_slices_Min_Lint_int_1 N (m + 1) (x, v3, i) = cond (decide (i < (((List.length x) : Nat) : Int)))
   (obind (nthI x i) fun z1 =>
    (l_slices_Min_Lint_int_1 N m (x, ((if (z1 < v3) then z1 else v3), (IntKind.wrap .i64 (i + (1 : Int)))))))
   (some v3) := by kernel_rfl
theorem m_slices_Min_Lint_int_eq (N : Nat) (x : (List Int)) : m_slices_Min_Lint_int (N + 1) (x) = cond (decide ((((List.length x) : Nat) : Int) < (1 : Int)))
   (none)
   (obind (nthI x (0 : Int)) fun z1 =>
    obind (l_slices_Min_Lint_int_1 N N (x, (z1, (1 : Int)))) fun z2 =>
    some z2) := by kernel_rfl
theorem c_slices_Min_Lint_int_ok (N : Nat) : (c_slices_Min_Lint_int N).ok Try.prog := exF_ok (T := T) (CT := ct_slices_Min_Lint_int) (N := N) (fun M => ⟨tOk, ctAll_nil, mixed⟩) Try.func60 (by kernel_rfl) (by kernel_rfl) p_slices_Min_Lint_int [.h (.sl (.i .i64))] [] [(.sl (.i .i64))] r_slices_Min_Lint_int false true [] (by kernel_rfl) (fun y => by kernel_rfl) (fun _ => ⟨rfl, rfl⟩) (fun y => by kernel_rfl) (m_slices_Min_Lint_int N) (fun x => by kernel_rfl)
/-! archipelago/ring.Plain -/
noncomputable def ct_ring_Plain (N : Nat) : List Ctr := [c_ring_Right N, c_slices_Min_Lint_int N, c_slices_Index_Lint_int N, c_ring_turned N]
def p_ring_Plain : Pl := .z
def r_ring_Plain : PS := ⟨[(2, .k (.ow 900))], [(900, .arr 3 (.i .i64) true)], [(.sl (.i .i64))]⟩
noncomputable def m_ring_Plain (N : Nat) : (List Int) → Option ((List Int)) := exF T ct_ring_Plain N (bodyOf Try.f47) 17 p_ring_Plain [.h (.sl (.i .i64))] [] [(.sl (.i .i64))] r_ring_Plain
noncomputable def c_ring_Plain (N : Nat) : Ctr := ⟨47, [.h (.sl (.i .i64))], [], [(.sl (.i .i64))], Tup r_ring_Plain.c, m_ring_Plain N, fun y _ k => k (resG T (mkPS 17 r_ring_Plain y) Try.f47.results.toList) (keepH' [900] (mkPS 17 r_ring_Plain y).h), true, true⟩
theorem m_ring_Plain_eq (N : Nat) (l : (List Int)) : m_ring_Plain (N + 1) (l) = obind (m_ring_Right N l) fun z1 =>
  cond (!z1)
   (some [])
   (cond (decide ((((List.length l) : Nat) : Int) = (0 : Int)))
     (some [])
     (obind (m_slices_Min_Lint_int N l) fun z2 =>
      obind (m_slices_Index_Lint_int N (l, z2)) fun z3 =>
      obind (m_ring_turned N (l, z3)) fun z4 =>
      some z4)) := by kernel_rfl
theorem c_ring_Plain_ok (N : Nat) : (c_ring_Plain N).ok Try.prog := exF_ok (T := T) (CT := ct_ring_Plain) (N := N) (fun M => ⟨tOk, (ctAll_cons (c_ring_Right_ok M) (ctAll_cons (c_slices_Min_Lint_int_ok M) (ctAll_cons (c_slices_Index_Lint_int_ok M) (ctAll_cons (c_ring_turned_ok M) ctAll_nil)))), mixed⟩) Try.func47 (by kernel_rfl) (by kernel_rfl) p_ring_Plain [.h (.sl (.i .i64))] [] [(.sl (.i .i64))] r_ring_Plain true true [900] (by kernel_rfl) (fun y => by kernel_rfl) (fun h => by cases h) (fun y => by kernel_rfl) (m_ring_Plain N) (fun x => by kernel_rfl)
/-! archipelago/ring.Join -/
noncomputable def ct_ring_Join (N : Nat) : List Ctr := [c_ring_places N, c_ring_From N, c_ring_Plain N, c_slices_Index_Lint_int N, c_slices_Insert_Lint_int_o_o N, c_ring_Right N]
def p_ring_Join : Pl := .z
def r_ring_Join : PS := ⟨[(8, .k (.ow 900)), (9, .h .b)], [(900, .arr 3 (.i .i64) true)], [.b, (.sl (.i .i64))]⟩
noncomputable def m_ring_Join (N : Nat) : (List Int) × Int × (List Int) × Int → Option (Bool × (List Int)) := exF T ct_ring_Join N (bodyOf Try.f29) 46 p_ring_Join [.h (.sl (.i .i64)), .h (.i .i64), .h (.sl (.i .i64)), .h (.i .i64)] [] [(.sl (.i .i64)), (.i .i64), (.sl (.i .i64)), (.i .i64)] r_ring_Join
noncomputable def c_ring_Join (N : Nat) : Ctr := ⟨29, [.h (.sl (.i .i64)), .h (.i .i64), .h (.sl (.i .i64)), .h (.i .i64)], [], [(.sl (.i .i64)), (.i .i64), (.sl (.i .i64)), (.i .i64)], Tup r_ring_Join.c, m_ring_Join N, fun y _ k => k (resG T (mkPS 46 r_ring_Join y) Try.f29.results.toList) (keepH' [900] (mkPS 46 r_ring_Join y).h), true, true⟩
theorem m_ring_Join_eq (N : Nat) (a : (List Int)) (x : Int) (b : (List Int)) (y : Int) : m_ring_Join (N + 1) (a, x, b, y) = obind (m_ring_places N (a, [x])) fun z1 =>
  cond (!z1.1)
   (some (false, []))
   (obind (m_ring_From N (b, y)) fun z2 =>
    cond (!z2.1)
     (some (false, []))
     (obind (m_ring_Plain N a) fun z3 =>
      obind (m_slices_Index_Lint_int N (z3, x)) fun z4 =>
      obind (m_slices_Insert_Lint_int_o_o N ((IntKind.wrap .i64 (z4 + (1 : Int))), (z3, z2.2))) fun z5 =>
      obind (m_ring_Right N z5) fun z6 =>
      cond (!z6)
       (some (false, []))
       (some (true, z5)))) := by kernel_rfl
theorem c_ring_Join_ok (N : Nat) : (c_ring_Join N).ok Try.prog := exF_ok (T := T) (CT := ct_ring_Join) (N := N) (fun M => ⟨tOk, (ctAll_cons (c_ring_places_ok M) (ctAll_cons (c_ring_From_ok M) (ctAll_cons (c_ring_Plain_ok M) (ctAll_cons (c_slices_Index_Lint_int_ok M) (ctAll_cons (c_slices_Insert_Lint_int_o_o_ok M) (ctAll_cons (c_ring_Right_ok M) ctAll_nil)))))), mixed⟩) Try.func29 (by kernel_rfl) (by kernel_rfl) p_ring_Join [.h (.sl (.i .i64)), .h (.i .i64), .h (.sl (.i .i64)), .h (.i .i64)] [] [(.sl (.i .i64)), (.i .i64), (.sl (.i .i64)), (.i .i64)] r_ring_Join true true [900] (by kernel_rfl) (fun y => by kernel_rfl) (fun h => by cases h) (fun y => by kernel_rfl) (m_ring_Join N) (fun x => by kernel_rfl)
/-! archipelago/splice.Join -/
noncomputable def ct_splice_Join (N : Nat) : List Ctr := [c_tower_Right N, c_ring_Join N, c_splice_heights N, c_splice_built_m N]
def p_splice_Join : Pl := .z
def r_splice_Join : PS := ⟨[(8, .k (.pt 900 0)), (9, .h .b)], [(900, .box 25 [.h (.sl (.i .i64)), .h (.sl (.i .i64)), .h (.sl (.sl (.i .i64)))])], [.b, (.sl (.i .i64)), (.sl (.i .i64)), (.sl (.sl (.i .i64)))]⟩
noncomputable def m_splice_Join (N : Nat) : (List Int) × (List Int) × (List (List Int)) × Int × (List Int) × (List Int) × (List (List Int)) × Int → Option (Bool × (List Int) × (List Int) × (List (List Int))) := exF T ct_splice_Join N (bodyOf Try.f11) 38 p_splice_Join [.ag [.h (.sl (.i .i64)), .h (.sl (.i .i64)), .h (.sl (.sl (.i .i64)))], .h (.i .i64), .ag [.h (.sl (.i .i64)), .h (.sl (.i .i64)), .h (.sl (.sl (.i .i64)))], .h (.i .i64)] [] [(.sl (.i .i64)), (.sl (.i .i64)), (.sl (.sl (.i .i64))), (.i .i64), (.sl (.i .i64)), (.sl (.i .i64)), (.sl (.sl (.i .i64))), (.i .i64)] r_splice_Join
noncomputable def c_splice_Join (N : Nat) : Ctr := ⟨11, [.ag [.h (.sl (.i .i64)), .h (.sl (.i .i64)), .h (.sl (.sl (.i .i64)))], .h (.i .i64), .ag [.h (.sl (.i .i64)), .h (.sl (.i .i64)), .h (.sl (.sl (.i .i64)))], .h (.i .i64)], [], [(.sl (.i .i64)), (.sl (.i .i64)), (.sl (.sl (.i .i64))), (.i .i64), (.sl (.i .i64)), (.sl (.i .i64)), (.sl (.sl (.i .i64))), (.i .i64)], Tup r_splice_Join.c, m_splice_Join N, fun y _ k => k (resG T (mkPS 38 r_splice_Join y) Try.f11.results.toList) (keepH' [] (mkPS 38 r_splice_Join y).h), false, false⟩
theorem m_splice_Join_eq (N : Nat) (a : (List Int)) (a2 : (List Int)) (a3 : (List (List Int))) (x : Int) (b : (List Int)) (b2 : (List Int)) (b3 : (List (List Int))) (y : Int) : m_splice_Join (N + 1) (a, a2, a3, x, b, b2, b3, y) = obind (m_tower_Right N (a, (a2, a3))) fun z1 =>
  cond (!z1)
   (some (false, ([], ([], []))))
   (obind (m_tower_Right N (b, (b2, b3))) fun z2 =>
    cond (!z2)
     (some (false, ([], ([], []))))
     (obind (m_ring_Join N (a, (x, (b, y)))) fun z3 =>
      obind (m_splice_heights N [(a, (a2, a3)), (b, (b2, b3))]) fun z4 =>
      obind (m_splice_built_m N (z3.2, z4)) fun z5 =>
      some (z3.1, (z5.1, (z5.2.1, z5.2.2.1))))) := by kernel_rfl
theorem c_splice_Join_ok (N : Nat) : (c_splice_Join N).ok Try.prog := exF_ok (T := T) (CT := ct_splice_Join) (N := N) (fun M => ⟨tOk, (ctAll_cons (c_tower_Right_ok M) (ctAll_cons (c_ring_Join_ok M) (ctAll_cons (c_splice_heights_ok M) (ctAll_cons (c_splice_built_m_ok M) ctAll_nil)))), mixed⟩) Try.func11 (by kernel_rfl) (by kernel_rfl) p_splice_Join [.ag [.h (.sl (.i .i64)), .h (.sl (.i .i64)), .h (.sl (.sl (.i .i64)))], .h (.i .i64), .ag [.h (.sl (.i .i64)), .h (.sl (.i .i64)), .h (.sl (.sl (.i .i64)))], .h (.i .i64)] [] [(.sl (.i .i64)), (.sl (.i .i64)), (.sl (.sl (.i .i64))), (.i .i64), (.sl (.i .i64)), (.sl (.i .i64)), (.sl (.sl (.i .i64))), (.i .i64)] r_splice_Join false false [] (by kernel_rfl) (fun y => by kernel_rfl) (fun _ => ⟨rfl, rfl⟩) (fun y => by kernel_rfl) (m_splice_Join N) (fun x => by kernel_rfl)
/-! archipelago/splice.From -/
noncomputable def ct_splice_From (N : Nat) : List Ctr := [c_tower_Right N, c_ring_From N, c_splice_heights N, c_splice_built_m N]
def p_splice_From : Pl := .z
def r_splice_From : PS := ⟨[(4, .k (.pt 900 0)), (5, .h .b)], [(900, .box 25 [.h (.sl (.i .i64)), .h (.sl (.i .i64)), .h (.sl (.sl (.i .i64)))])], [.b, (.sl (.i .i64)), (.sl (.i .i64)), (.sl (.sl (.i .i64)))]⟩
noncomputable def m_splice_From (N : Nat) : (List Int) × (List Int) × (List (List Int)) × Int → Option (Bool × (List Int) × (List Int) × (List (List Int))) := exF T ct_splice_From N (bodyOf Try.f15) 25 p_splice_From [.ag [.h (.sl (.i .i64)), .h (.sl (.i .i64)), .h (.sl (.sl (.i .i64)))], .h (.i .i64)] [] [(.sl (.i .i64)), (.sl (.i .i64)), (.sl (.sl (.i .i64))), (.i .i64)] r_splice_From
noncomputable def c_splice_From (N : Nat) : Ctr := ⟨15, [.ag [.h (.sl (.i .i64)), .h (.sl (.i .i64)), .h (.sl (.sl (.i .i64)))], .h (.i .i64)], [], [(.sl (.i .i64)), (.sl (.i .i64)), (.sl (.sl (.i .i64))), (.i .i64)], Tup r_splice_From.c, m_splice_From N, fun y _ k => k (resG T (mkPS 25 r_splice_From y) Try.f15.results.toList) (keepH' [] (mkPS 25 r_splice_From y).h), false, false⟩
theorem m_splice_From_eq (N : Nat) (t : (List Int)) (t2 : (List Int)) (t3 : (List (List Int))) (token : Int) : m_splice_From (N + 1) (t, t2, t3, token) = obind (m_tower_Right N (t, (t2, t3))) fun z1 =>
  cond (!z1)
   (some (false, ([], ([], []))))
   (obind (m_ring_From N (t, token)) fun z2 =>
    obind (m_splice_heights N [(t, (t2, t3))]) fun z3 =>
    obind (m_splice_built_m N (z2.2, z3)) fun z4 =>
    some (z2.1, (z4.1, (z4.2.1, z4.2.2.1)))) := by kernel_rfl
theorem c_splice_From_ok (N : Nat) : (c_splice_From N).ok Try.prog := exF_ok (T := T) (CT := ct_splice_From) (N := N) (fun M => ⟨tOk, (ctAll_cons (c_tower_Right_ok M) (ctAll_cons (c_ring_From_ok M) (ctAll_cons (c_splice_heights_ok M) (ctAll_cons (c_splice_built_m_ok M) ctAll_nil)))), mixed⟩) Try.func15 (by kernel_rfl) (by kernel_rfl) p_splice_From [.ag [.h (.sl (.i .i64)), .h (.sl (.i .i64)), .h (.sl (.sl (.i .i64)))], .h (.i .i64)] [] [(.sl (.i .i64)), (.sl (.i .i64)), (.sl (.sl (.i .i64))), (.i .i64)] r_splice_From false false [] (by kernel_rfl) (fun y => by kernel_rfl) (fun _ => ⟨rfl, rfl⟩) (fun y => by kernel_rfl) (m_splice_From N) (fun x => by kernel_rfl)
/-! archipelago/splice.Links -/
noncomputable def ct_splice_Links (N : Nat) : List Ctr := [c_tower_Right N]
def i_splice_Links_2 : PS := ⟨[(1, .k (.pt 900 0)), (3, .k (.ow 901)), (4, .h (.i .i64)), (12, .h (.sl (.sl (.i .i64)))), (13, .h (.i .i64)), (14, .h (.i .i64)), (19, .h (.sl (.i .i64))), (20, .h (.i .i64)), (21, .h (.i .i64))], [(900, .box 25 [.h (.sl (.i .i64)), .h (.sl (.i .i64)), .h (.sl (.sl (.i .i64)))]), (901, .arr 51 (.pr (.i .i64) (.pr (.i .i64) (.i .i64))) true)], [(.i .i64), (.sl (.sl (.i .i64))), (.i .i64), (.i .i64), (.sl (.i .i64)), (.i .i64), (.i .i64), (.sl (.i .i64)), (.sl (.i .i64)), (.sl (.sl (.i .i64))), (.sl (.pr (.i .i64) (.pr (.i .i64) (.i .i64))))]⟩
def o_splice_Links_2 : List (Exit × PS) := [((.exit 2), ⟨[(1, .k (.pt 900 0)), (3, .k (.ow 901)), (12, .h (.sl (.sl (.i .i64)))), (13, .h (.i .i64)), (14, .h (.i .i64))], [(900, .box 25 [.h (.sl (.i .i64)), .h (.sl (.i .i64)), .h (.sl (.sl (.i .i64)))]), (901, .arr 51 (.pr (.i .i64) (.pr (.i .i64) (.i .i64))) true)], [(.sl (.sl (.i .i64))), (.i .i64), (.i .i64), (.sl (.i .i64)), (.sl (.i .i64)), (.sl (.sl (.i .i64))), (.sl (.pr (.i .i64) (.pr (.i .i64) (.i .i64))))]⟩)]
def p_splice_Links_2 : Pl := .z
noncomputable def l_splice_Links_2 (N : Nat) : Nat → Int × (List (List Int)) × Int × Int × (List Int) × Int × Int × (List Int) × (List Int) × (List (List Int)) × (List (Int × (Int × Int))) → Option ((List (List Int)) × Int × Int × (List Int) × (List Int) × (List (List Int)) × (List (Int × (Int × Int)))) := loopF (exC T (ct_splice_Links N) N (codeAt [1, 1, 1, 0, 1, 0, 0, 1, 1, 0, 0, 1, 1, 0, 0] (bodyOf Try.f19))) 44 i_splice_Links_2 o_splice_Links_2 p_splice_Links_2
def i_splice_Links_1 : PS := ⟨[(1, .k (.pt 900 0)), (3, .k (.ow 901)), (12, .h (.sl (.sl (.i .i64)))), (13, .h (.i .i64)), (14, .h (.i .i64))], [(900, .box 25 [.h (.sl (.i .i64)), .h (.sl (.i .i64)), .h (.sl (.sl (.i .i64)))]), (901, .arr 51 (.pr (.i .i64) (.pr (.i .i64) (.i .i64))) true)], [(.sl (.sl (.i .i64))), (.i .i64), (.i .i64), (.sl (.i .i64)), (.sl (.i .i64)), (.sl (.sl (.i .i64))), (.sl (.pr (.i .i64) (.pr (.i .i64) (.i .i64))))]⟩
def o_splice_Links_1 : List (Exit × PS) := [((.exit 0), ⟨[(3, .k (.ow 900))], [(900, .arr 51 (.pr (.i .i64) (.pr (.i .i64) (.i .i64))) true)], [(.sl (.pr (.i .i64) (.pr (.i .i64) (.i .i64))))]⟩)]
def p_splice_Links_1 : Pl := (.n .z (.n .z (.n (.n (.n .z (.n .z (.n (.loop i_splice_Links_2 o_splice_Links_2 p_splice_Links_2) .z))) .z) .z)))
noncomputable def l_splice_Links_1 (N : Nat) : Nat → (List (List Int)) × Int × Int × (List Int) × (List Int) × (List (List Int)) × (List (Int × (Int × Int))) → Option ((List (Int × (Int × Int)))) := loopF (exC T (ct_splice_Links N) N (codeAt [1, 1, 1, 0, 1, 0, 0] (bodyOf Try.f19))) 44 i_splice_Links_1 o_splice_Links_1 p_splice_Links_1
def p_splice_Links : Pl := (.n .z (.n .z (.n .z (.n (.n .z (.n (.loop i_splice_Links_1 o_splice_Links_1 p_splice_Links_1) .z)) .z))))
def r_splice_Links : PS := ⟨[(2, .k (.ow 900))], [(900, .arr 51 (.pr (.i .i64) (.pr (.i .i64) (.i .i64))) true)], [(.sl (.pr (.i .i64) (.pr (.i .i64) (.i .i64))))]⟩
noncomputable def m_splice_Links (N : Nat) : (List Int) × (List Int) × (List (List Int)) → Option ((List (Int × (Int × Int)))) := exF T ct_splice_Links N (bodyOf Try.f19) 44 p_splice_Links [.ag [.h (.sl (.i .i64)), .h (.sl (.i .i64)), .h (.sl (.sl (.i .i64)))]] [] [(.sl (.i .i64)), (.sl (.i .i64)), (.sl (.sl (.i .i64)))] r_splice_Links
noncomputable def c_splice_Links (N : Nat) : Ctr := ⟨19, [.ag [.h (.sl (.i .i64)), .h (.sl (.i .i64)), .h (.sl (.sl (.i .i64)))]], [], [(.sl (.i .i64)), (.sl (.i .i64)), (.sl (.sl (.i .i64)))], Tup r_splice_Links.c, m_splice_Links N, fun y _ k => k (resG T (mkPS 44 r_splice_Links y) Try.f19.results.toList) (keepH' [900] (mkPS 44 r_splice_Links y).h), true, true⟩
theorem l_splice_Links_2_z (N : Nat) (v : Int × (List (List Int)) × Int × Int × (List Int) × Int × Int × (List Int) × (List Int) × (List (List Int)) × (List (Int × (Int × Int)))) : l_splice_Links_2 N 0 v = none := by kernel_rfl
theorem l_splice_Links_2_s (N m : Nat) (i : Int) (v12 : (List (List Int))) (v13 : Int) (v14 : Int) (v19 : (List Int)) (v20 : Int) (v21 : Int) (t : (List Int)) (t2 : (List Int)) (t3 : (List (List Int))) (l : (List (Int × (Int × Int)))) : l_splice_Links_2 N (m + 1) (i, v12, v13, v14, v19, v20, v21, t, t2, t3, l) = cond (decide (v21 < v20))
   (obind (nthI v19 v21) fun z1 =>
    obind (nthI t i) fun z2 =>
    obind (nthI t z1) fun z3 =>
    obind (appI (24 : Nat) l [(z2, (v21, z3))]) fun z4 =>
    (l_splice_Links_2 N m (i, (v12, (v13, (v14, (v19, (v20, ((IntKind.wrap .i64 (v21 + (1 : Int))), (t, (t2, (t3, z4))))))))))))
   (some (v12, (v13, (v14, (t, (t2, (t3, l))))))) := by kernel_rfl
theorem l_splice_Links_1_z (N : Nat) (v : (List (List Int)) × Int × Int × (List Int) × (List Int) × (List (List Int)) × (List (Int × (Int × Int)))) : l_splice_Links_1 N 0 v = none := by kernel_rfl
theorem l_splice_Links_1_s (N m : Nat) (v12 : (List (List Int))) (v13 : Int) (v14 : Int) (t : (List Int)) (t2 : (List Int)) (t3 : (List (List Int))) (l : (List (Int × (Int × Int)))) : l_splice_Links_1 N (m + 1) (v12, v13, v14, t, t2, t3, l) = cond (decide (v14 < v13))
   (obind (nthI v12 v14) fun z1 =>
    obind (l_splice_Links_2 N N (v14, (v12, (v13, (v14, (z1, ((((List.length z1) : Nat) : Int), ((0 : Int), (t, (t2, (t3, l))))))))))) fun z2 =>
    (l_splice_Links_1 N m (z2.1, (z2.2.1, ((IntKind.wrap .i64 (z2.2.2.1 + (1 : Int))), (z2.2.2.2.1, (z2.2.2.2.2.1, (z2.2.2.2.2.2.1, z2.2.2.2.2.2.2))))))))
   (some l) := by kernel_rfl
theorem m_splice_Links_eq (N : Nat) (t : (List Int)) (t2 : (List Int)) (t3 : (List (List Int))) : m_splice_Links (N + 1) (t, t2, t3) = obind (m_tower_Right N (t, (t2, t3))) fun z1 =>
  cond (!z1)
   (some [])
   (obind (l_splice_Links_1 N N (t3, ((((List.length t3) : Nat) : Int), ((0 : Int), (t, (t2, (t3, []))))))) fun z2 =>
    some z2) := by kernel_rfl
theorem c_splice_Links_ok (N : Nat) : (c_splice_Links N).ok Try.prog := exF_ok (T := T) (CT := ct_splice_Links) (N := N) (fun M => ⟨tOk, (ctAll_cons (c_tower_Right_ok M) ctAll_nil), mixed⟩) Try.func19 (by kernel_rfl) (by kernel_rfl) p_splice_Links [.ag [.h (.sl (.i .i64)), .h (.sl (.i .i64)), .h (.sl (.sl (.i .i64)))]] [] [(.sl (.i .i64)), (.sl (.i .i64)), (.sl (.sl (.i .i64)))] r_splice_Links true true [900] (by kernel_rfl) (fun y => by kernel_rfl) (fun h => by cases h) (fun y => by kernel_rfl) (m_splice_Links N) (fun x => by kernel_rfl)
/-! archipelago/archipelagoref01.Ints -/
noncomputable def ct_ref01_Ints (N : Nat) : List Ctr := []
def i_ref01_Ints_1 : PS := ⟨[(0, .h (.sl (.i .i64))), (1, .h (.sl (.i .i64))), (5, .h (.i .i64))], [], [(.sl (.i .i64)), (.sl (.i .i64)), (.i .i64)]⟩
def o_ref01_Ints_1 : List (Exit × PS) := [((.exit 0), ⟨[], [], []⟩), (.ret, ⟨[(4, .h .b)], [], [.b]⟩)]
def p_ref01_Ints_1 : Pl := .z
noncomputable def l_ref01_Ints_1 (N : Nat) : Nat → (List Int) × (List Int) × Int → Option ((Unit) ⊕ (Bool)) := loopF (exC T (ct_ref01_Ints N) N (codeAt [1, 1, 0, 1, 0, 0] (bodyOf Try.f27))) 26 i_ref01_Ints_1 o_ref01_Ints_1 p_ref01_Ints_1
def p_ref01_Ints : Pl := (.n .z (.n .z (.n (.n .z (.n (.loop i_ref01_Ints_1 o_ref01_Ints_1 p_ref01_Ints_1) .z)) .z)))
def r_ref01_Ints : PS := ⟨[(4, .h .b)], [], [.b]⟩
noncomputable def m_ref01_Ints (N : Nat) : (List Int) × (List Int) → Option (Bool) := exF T ct_ref01_Ints N (bodyOf Try.f27) 26 p_ref01_Ints [.h (.sl (.i .i64)), .h (.sl (.i .i64))] [] [(.sl (.i .i64)), (.sl (.i .i64))] r_ref01_Ints
noncomputable def c_ref01_Ints (N : Nat) : Ctr := ⟨27, [.h (.sl (.i .i64)), .h (.sl (.i .i64))], [], [(.sl (.i .i64)), (.sl (.i .i64))], Tup r_ref01_Ints.c, m_ref01_Ints N, fun y _ k => k (resG T (mkPS 26 r_ref01_Ints y) Try.f27.results.toList) (keepH' [] (mkPS 26 r_ref01_Ints y).h), false, true⟩
theorem l_ref01_Ints_1_z (N : Nat) (v : (List Int) × (List Int) × Int) : l_ref01_Ints_1 N 0 v = none := by kernel_rfl
theorem l_ref01_Ints_1_s (N m : Nat) (a : (List Int)) (b : (List Int)) (i : Int) : l_ref01_Ints_1 N (m + 1) (a, b, i) = cond (decide (i < (((List.length a) : Nat) : Int)))
   (obind (nthI a i) fun z1 =>
    obind (nthI b i) fun z2 =>
    cond (!(decide (z1 = z2)))
     (some (.inr false))
     ((l_ref01_Ints_1 N m (a, (b, (IntKind.wrap .i64 (i + (1 : Int))))))))
   (some (.inl ())) := by kernel_rfl
theorem m_ref01_Ints_eq (N : Nat) (a : (List Int)) (b : (List Int)) : m_ref01_Ints (N + 1) (a, b) = cond (!(decide ((((List.length a) : Nat) : Int) = (((List.length b) : Nat) : Int))))
   (some false)
   (obind (l_ref01_Ints_1 N N (a, (b, (0 : Int)))) fun z1 =>
    (match z1 with
    | .inl zy2 => some true
    | .inr zy3 => some zy3)) := by kernel_rfl
theorem c_ref01_Ints_ok (N : Nat) : (c_ref01_Ints N).ok Try.prog := exF_ok (T := T) (CT := ct_ref01_Ints) (N := N) (fun M => ⟨tOk, ctAll_nil, mixed⟩) Try.func27 (by kernel_rfl) (by kernel_rfl) p_ref01_Ints [.h (.sl (.i .i64)), .h (.sl (.i .i64))] [] [(.sl (.i .i64)), (.sl (.i .i64))] r_ref01_Ints false true [] (by kernel_rfl) (fun y => by kernel_rfl) (fun _ => ⟨rfl, rfl⟩) (fun y => by kernel_rfl) (m_ref01_Ints N) (fun x => by kernel_rfl)
/-! archipelago/archipelagoref14.Lists -/
noncomputable def ct_ref14_Lists (N : Nat) : List Ctr := [c_ref01_Ints N]
def i_ref14_Lists_1 : PS := ⟨[(0, .h (.sl (.sl (.i .i64)))), (1, .h (.sl (.sl (.i .i64)))), (5, .h (.i .i64))], [], [(.sl (.sl (.i .i64))), (.sl (.sl (.i .i64))), (.i .i64)]⟩
def o_ref14_Lists_1 : List (Exit × PS) := [((.exit 0), ⟨[], [], []⟩), (.ret, ⟨[(4, .h .b)], [], [.b]⟩)]
def p_ref14_Lists_1 : Pl := .z
noncomputable def l_ref14_Lists_1 (N : Nat) : Nat → (List (List Int)) × (List (List Int)) × Int → Option ((Unit) ⊕ (Bool)) := loopF (exC T (ct_ref14_Lists N) N (codeAt [1, 1, 0, 1, 0, 0] (bodyOf Try.f38))) 27 i_ref14_Lists_1 o_ref14_Lists_1 p_ref14_Lists_1
def p_ref14_Lists : Pl := (.n .z (.n .z (.n (.n .z (.n (.loop i_ref14_Lists_1 o_ref14_Lists_1 p_ref14_Lists_1) .z)) .z)))
def r_ref14_Lists : PS := ⟨[(4, .h .b)], [], [.b]⟩
noncomputable def m_ref14_Lists (N : Nat) : (List (List Int)) × (List (List Int)) → Option (Bool) := exF T ct_ref14_Lists N (bodyOf Try.f38) 27 p_ref14_Lists [.h (.sl (.sl (.i .i64))), .h (.sl (.sl (.i .i64)))] [] [(.sl (.sl (.i .i64))), (.sl (.sl (.i .i64)))] r_ref14_Lists
noncomputable def c_ref14_Lists (N : Nat) : Ctr := ⟨38, [.h (.sl (.sl (.i .i64))), .h (.sl (.sl (.i .i64)))], [], [(.sl (.sl (.i .i64))), (.sl (.sl (.i .i64)))], Tup r_ref14_Lists.c, m_ref14_Lists N, fun y _ k => k (resG T (mkPS 27 r_ref14_Lists y) Try.f38.results.toList) (keepH' [] (mkPS 27 r_ref14_Lists y).h), false, true⟩
theorem l_ref14_Lists_1_z (N : Nat) (v : (List (List Int)) × (List (List Int)) × Int) : l_ref14_Lists_1 N 0 v = none := by kernel_rfl
theorem l_ref14_Lists_1_s (N m : Nat) (a : (List (List Int))) (b : (List (List Int))) (i : Int) : l_ref14_Lists_1 N (m + 1) (a, b, i) = cond (decide (i < (((List.length a) : Nat) : Int)))
   (obind (nthI a i) fun z1 =>
    obind (nthI b i) fun z2 =>
    obind (m_ref01_Ints N (z1, z2)) fun z3 =>
    cond (!z3)
     (some (.inr false))
     ((l_ref14_Lists_1 N m (a, (b, (IntKind.wrap .i64 (i + (1 : Int))))))))
   (some (.inl ())) := by kernel_rfl
theorem m_ref14_Lists_eq (N : Nat) (a : (List (List Int))) (b : (List (List Int))) : m_ref14_Lists (N + 1) (a, b) = cond (!(decide ((((List.length a) : Nat) : Int) = (((List.length b) : Nat) : Int))))
   (some false)
   (obind (l_ref14_Lists_1 N N (a, (b, (0 : Int)))) fun z1 =>
    (match z1 with
    | .inl zy2 => some true
    | .inr zy3 => some zy3)) := by kernel_rfl
theorem c_ref14_Lists_ok (N : Nat) : (c_ref14_Lists N).ok Try.prog := exF_ok (T := T) (CT := ct_ref14_Lists) (N := N) (fun M => ⟨tOk, (ctAll_cons (c_ref01_Ints_ok M) ctAll_nil), mixed⟩) Try.func38 (by kernel_rfl) (by kernel_rfl) p_ref14_Lists [.h (.sl (.sl (.i .i64))), .h (.sl (.sl (.i .i64)))] [] [(.sl (.sl (.i .i64))), (.sl (.sl (.i .i64)))] r_ref14_Lists false true [] (by kernel_rfl) (fun y => by kernel_rfl) (fun _ => ⟨rfl, rfl⟩) (fun y => by kernel_rfl) (m_ref14_Lists N) (fun x => by kernel_rfl)
/-! archipelago/archipelagoref14.Same -/
noncomputable def ct_ref14_Same (N : Nat) : List Ctr := [c_ref01_Ints N, c_ref14_Lists N]
def p_ref14_Same : Pl := .z
def r_ref14_Same : PS := ⟨[(4, .h .b)], [], [.b]⟩
noncomputable def m_ref14_Same (N : Nat) : (List Int) × (List Int) × (List (List Int)) × (List Int) × (List Int) × (List (List Int)) → Option (Bool) := exF T ct_ref14_Same N (bodyOf Try.f17) 24 p_ref14_Same [.ag [.h (.sl (.i .i64)), .h (.sl (.i .i64)), .h (.sl (.sl (.i .i64)))], .ag [.h (.sl (.i .i64)), .h (.sl (.i .i64)), .h (.sl (.sl (.i .i64)))]] [] [(.sl (.i .i64)), (.sl (.i .i64)), (.sl (.sl (.i .i64))), (.sl (.i .i64)), (.sl (.i .i64)), (.sl (.sl (.i .i64)))] r_ref14_Same
noncomputable def c_ref14_Same (N : Nat) : Ctr := ⟨17, [.ag [.h (.sl (.i .i64)), .h (.sl (.i .i64)), .h (.sl (.sl (.i .i64)))], .ag [.h (.sl (.i .i64)), .h (.sl (.i .i64)), .h (.sl (.sl (.i .i64)))]], [], [(.sl (.i .i64)), (.sl (.i .i64)), (.sl (.sl (.i .i64))), (.sl (.i .i64)), (.sl (.i .i64)), (.sl (.sl (.i .i64)))], Tup r_ref14_Same.c, m_ref14_Same N, fun y _ k => k (resG T (mkPS 24 r_ref14_Same y) Try.f17.results.toList) (keepH' [] (mkPS 24 r_ref14_Same y).h), false, true⟩
theorem m_ref14_Same_eq (N : Nat) (a : (List Int)) (a2 : (List Int)) (a3 : (List (List Int))) (b : (List Int)) (b2 : (List Int)) (b3 : (List (List Int))) : m_ref14_Same (N + 1) (a, a2, a3, b, b2, b3) = obind (m_ref01_Ints N (a, b)) fun z1 =>
  cond z1
   (obind (m_ref01_Ints N (a2, b2)) fun z2 =>
    cond z2
     (obind (m_ref14_Lists N (a3, b3)) fun z3 =>
      some z3)
     (some false))
   (some false) := by kernel_rfl
theorem c_ref14_Same_ok (N : Nat) : (c_ref14_Same N).ok Try.prog := exF_ok (T := T) (CT := ct_ref14_Same) (N := N) (fun M => ⟨tOk, (ctAll_cons (c_ref01_Ints_ok M) (ctAll_cons (c_ref14_Lists_ok M) ctAll_nil)), mixed⟩) Try.func17 (by kernel_rfl) (by kernel_rfl) p_ref14_Same [.ag [.h (.sl (.i .i64)), .h (.sl (.i .i64)), .h (.sl (.sl (.i .i64)))], .ag [.h (.sl (.i .i64)), .h (.sl (.i .i64)), .h (.sl (.sl (.i .i64)))]] [] [(.sl (.i .i64)), (.sl (.i .i64)), (.sl (.sl (.i .i64))), (.sl (.i .i64)), (.sl (.i .i64)), (.sl (.sl (.i .i64)))] r_ref14_Same false true [] (by kernel_rfl) (fun y => by kernel_rfl) (fun _ => ⟨rfl, rfl⟩) (fun y => by kernel_rfl) (m_ref14_Same N) (fun x => by kernel_rfl)
/-! archipelago/splice.spots -/
noncomputable def ct_splice_spots (N : Nat) : List Ctr := []
def i_splice_spots_1 : PS := ⟨[(3, .k (.mp 900)), (7, .h (.sl (.pr (.i .i64) (.pr (.i .i64) (.i .i64))))), (8, .h (.i .i64)), (9, .h (.i .i64))], [(900, .mp (.tuple ⟨[]⟩) (.pr (.i .i64) (.i .i64)) (.i .i64))], [(.sl (.pr (.i .i64) (.pr (.i .i64) (.i .i64)))), (.i .i64), (.i .i64), (.sl (.pr (.pr (.i .i64) (.i .i64)) (.i .i64)))]⟩
def o_splice_spots_1 : List (Exit × PS) := [((.exit 0), ⟨[(3, .k (.mp 900))], [(900, .mp (.tuple ⟨[]⟩) (.pr (.i .i64) (.i .i64)) (.i .i64))], [(.sl (.pr (.pr (.i .i64) (.i .i64)) (.i .i64)))]⟩)]
def p_splice_spots_1 : Pl := .z
noncomputable def l_splice_spots_1 (N : Nat) : Nat → (List (Int × (Int × Int))) × Int × Int × (List ((Int × Int) × Int)) → Option ((List ((Int × Int) × Int))) := loopF (exC T (ct_splice_spots N) N (codeAt [1, 1, 0, 1, 0, 0] (bodyOf Try.f41))) 23 i_splice_spots_1 o_splice_spots_1 p_splice_spots_1
def p_splice_spots : Pl := (.n .z (.n .z (.n (.n .z (.n (.loop i_splice_spots_1 o_splice_spots_1 p_splice_spots_1) .z)) .z)))
def r_splice_spots : PS := ⟨[(2, .k (.mp 900))], [(900, .mp (.tuple ⟨[]⟩) (.pr (.i .i64) (.i .i64)) (.i .i64))], [(.sl (.pr (.pr (.i .i64) (.i .i64)) (.i .i64)))]⟩
noncomputable def m_splice_spots (N : Nat) : (List (Int × (Int × Int))) → Option ((List ((Int × Int) × Int))) := exF T ct_splice_spots N (bodyOf Try.f41) 23 p_splice_spots [.h (.sl (.pr (.i .i64) (.pr (.i .i64) (.i .i64))))] [] [(.sl (.pr (.i .i64) (.pr (.i .i64) (.i .i64))))] r_splice_spots
noncomputable def c_splice_spots (N : Nat) : Ctr := ⟨41, [.h (.sl (.pr (.i .i64) (.pr (.i .i64) (.i .i64))))], [], [(.sl (.pr (.i .i64) (.pr (.i .i64) (.i .i64))))], Tup r_splice_spots.c, m_splice_spots N, fun y _ k => k (resG T (mkPS 23 r_splice_spots y) Try.f41.results.toList) (keepH' [900] (mkPS 23 r_splice_spots y).h), true, true⟩
theorem l_splice_spots_1_z (N : Nat) (v : (List (Int × (Int × Int))) × Int × Int × (List ((Int × Int) × Int))) : l_splice_spots_1 N 0 v = none := by kernel_rfl
theorem l_splice_spots_1_s (N m : Nat) (v7 : (List (Int × (Int × Int)))) (v8 : Int) (v9 : Int) (v3 : (List ((Int × Int) × Int))) : l_splice_spots_1 N (m + 1) (v7, v8, v9, v3) = cond (decide (v9 < v8))
   (obind (nthI v7 v9) fun z1 =>
    (l_splice_spots_1 N m (v7, (v8, ((IntKind.wrap .i64 (v9 + (1 : Int))), (mput (.pr (.i .i64) (.i .i64)) v3 (z1.1, z1.2.1) z1.2.2))))))
   (some v3) := by kernel_rfl
theorem m_splice_spots_eq (N : Nat) (l : (List (Int × (Int × Int)))) : m_splice_spots (N + 1) (l) = obind (l_splice_spots_1 N N (l, ((((List.length l) : Nat) : Int), ((0 : Int), [])))) fun z1 =>
  some z1 := by kernel_rfl
theorem c_splice_spots_ok (N : Nat) : (c_splice_spots N).ok Try.prog := exF_ok (T := T) (CT := ct_splice_spots) (N := N) (fun M => ⟨tOk, ctAll_nil, mixed⟩) Try.func41 (by kernel_rfl) (by kernel_rfl) p_splice_spots [.h (.sl (.pr (.i .i64) (.pr (.i .i64) (.i .i64))))] [] [(.sl (.pr (.i .i64) (.pr (.i .i64) (.i .i64))))] r_splice_spots true true [900] (by kernel_rfl) (fun y => by kernel_rfl) (fun h => by cases h) (fun y => by kernel_rfl) (m_splice_spots N) (fun x => by kernel_rfl)
/-! archipelago/splice.Changed -/
noncomputable def ct_splice_Changed (N : Nat) : List Ctr := [c_splice_spots N]
def i_splice_Changed_2 : PS := ⟨[(5, .k (.mp 900)), (7, .h (.i .i64)), (42, .k (.pt 901 0))], [(900, .mp (.tuple ⟨[]⟩) (.pr (.i .i64) (.i .i64)) (.i .i64)), (901, .box 1152921504606846975 [.k (.mp 902), .h (.i .i64), .h (.i .i64), .h (.i .i64)]), (902, .mp (.tuple ⟨[]⟩) (.pr (.i .i64) (.i .i64)) (.i .i64))], [(.i .i64), (.sl (.pr (.pr (.i .i64) (.i .i64)) (.i .i64))), (.i .i64), (.i .i64), (.i .i64), (.sl (.pr (.pr (.i .i64) (.i .i64)) (.i .i64)))]⟩
def o_splice_Changed_2 : List (Exit × PS) := [((.exit 2), ⟨[(7, .h (.i .i64))], [], [(.i .i64)]⟩)]
def p_splice_Changed_2 : Pl := .z
noncomputable def l_splice_Changed_2 (N : Nat) : Nat → Int × (List ((Int × Int) × Int)) × Int × Int × Int × (List ((Int × Int) × Int)) → Option (Int) := loopF (exC T (ct_splice_Changed N) N (codeAt [1, 1, 1, 1, 0, 1, 0, 0] (bodyOf Try.f23))) 58 i_splice_Changed_2 o_splice_Changed_2 p_splice_Changed_2
def i_splice_Changed_1 : PS := ⟨[(5, .k (.mp 900)), (6, .k (.mp 901)), (7, .h (.i .i64)), (20, .k (.pt 902 0))], [(900, .mp (.tuple ⟨[]⟩) (.pr (.i .i64) (.i .i64)) (.i .i64)), (901, .mp (.tuple ⟨[]⟩) (.pr (.i .i64) (.i .i64)) (.i .i64)), (902, .box 1152921504606846975 [.k (.mp 900), .h (.i .i64), .h (.i .i64), .h (.i .i64)])], [(.i .i64), (.sl (.pr (.pr (.i .i64) (.i .i64)) (.i .i64))), (.sl (.pr (.pr (.i .i64) (.i .i64)) (.i .i64))), (.i .i64), (.i .i64), (.i .i64)]⟩
def o_splice_Changed_1 : List (Exit × PS) := [((.exit 0), ⟨[(5, .k (.mp 900)), (6, .k (.mp 901)), (7, .h (.i .i64))], [(900, .mp (.tuple ⟨[]⟩) (.pr (.i .i64) (.i .i64)) (.i .i64)), (901, .mp (.tuple ⟨[]⟩) (.pr (.i .i64) (.i .i64)) (.i .i64))], [(.i .i64), (.sl (.pr (.pr (.i .i64) (.i .i64)) (.i .i64))), (.sl (.pr (.pr (.i .i64) (.i .i64)) (.i .i64)))]⟩)]
def p_splice_Changed_1 : Pl := .z
noncomputable def l_splice_Changed_1 (N : Nat) : Nat → Int × (List ((Int × Int) × Int)) × (List ((Int × Int) × Int)) × Int × Int × Int → Option (Int × (List ((Int × Int) × Int)) × (List ((Int × Int) × Int))) := loopF (exC T (ct_splice_Changed N) N (codeAt [1, 1, 1, 0, 1, 0, 0] (bodyOf Try.f23))) 58 i_splice_Changed_1 o_splice_Changed_1 p_splice_Changed_1
def p_splice_Changed : Pl := (.n .z (.n .z (.n .z (.n (.n .z (.n (.loop i_splice_Changed_1 o_splice_Changed_1 p_splice_Changed_1) .z)) (.n (.n .z (.n (.loop i_splice_Changed_2 o_splice_Changed_2 p_splice_Changed_2) .z)) .z)))))
def r_splice_Changed : PS := ⟨[(4, .h (.i .i64))], [], [(.i .i64)]⟩
noncomputable def m_splice_Changed (N : Nat) : (List (Int × (Int × Int))) × (List (Int × (Int × Int))) → Option (Int) := exF T ct_splice_Changed N (bodyOf Try.f23) 58 p_splice_Changed [.h (.sl (.pr (.i .i64) (.pr (.i .i64) (.i .i64)))), .h (.sl (.pr (.i .i64) (.pr (.i .i64) (.i .i64))))] [] [(.sl (.pr (.i .i64) (.pr (.i .i64) (.i .i64)))), (.sl (.pr (.i .i64) (.pr (.i .i64) (.i .i64))))] r_splice_Changed
noncomputable def c_splice_Changed (N : Nat) : Ctr := ⟨23, [.h (.sl (.pr (.i .i64) (.pr (.i .i64) (.i .i64)))), .h (.sl (.pr (.i .i64) (.pr (.i .i64) (.i .i64))))], [], [(.sl (.pr (.i .i64) (.pr (.i .i64) (.i .i64)))), (.sl (.pr (.i .i64) (.pr (.i .i64) (.i .i64))))], Tup r_splice_Changed.c, m_splice_Changed N, fun y _ k => k (resG T (mkPS 58 r_splice_Changed y) Try.f23.results.toList) (keepH' [] (mkPS 58 r_splice_Changed y).h), false, true⟩
theorem l_splice_Changed_2_z (N : Nat) (v : Int × (List ((Int × Int) × Int)) × Int × Int × Int × (List ((Int × Int) × Int))) : l_splice_Changed_2 N 0 v = none := by kernel_rfl
theorem l_splice_Changed_2_s (N m : Nat) (n : Int) (x : (List ((Int × Int) × Int))) (v42 : Int) (v422 : Int) (v423 : Int) (v902 : (List ((Int × Int) × Int))) : l_splice_Changed_2 N (m + 1) (n, x, v42, v422, v423, v902) = cond (decide ((((List.length v902) : Nat) : Int) = v42))
   (dAll (List.length v902) v422 (fun zj1 =>
     cond (decide ((((List.length v902) : Nat) : Int) = v42))
       (obind (nthI v902 (Int.ofNat zj1)) fun z2 =>
        cond (!(Option.isSome (mget (.pr (.i .i64) (.i .i64)) x (z2.1.1, z2.1.2))))
         ((l_splice_Changed_2 N m ((IntKind.wrap .i64 (n + (1 : Int))), (x, (v42, ((maskI v422 zj1), ((Int.ofNat zj1), v902)))))))
         ((l_splice_Changed_2 N m (n, (x, (v42, ((maskI v422 zj1), ((Int.ofNat zj1), v902))))))))
       (none))
     (some n))
   (none) := by kernel_rfl
theorem l_splice_Changed_1_z (N : Nat) (v : Int × (List ((Int × Int) × Int)) × (List ((Int × Int) × Int)) × Int × Int × Int) : l_splice_Changed_1 N 0 v = none := by kernel_rfl
theorem l_splice_Changed_1_s (N m : Nat) (n : Int) (x : (List ((Int × Int) × Int))) (y : (List ((Int × Int) × Int))) (v20 : Int) (v202 : Int) (v203 : Int) : l_splice_Changed_1 N (m + 1) (n, x, y, v20, v202, v203) = cond (decide ((((List.length x) : Nat) : Int) = v20))
   (dAll (List.length x) v202 (fun zj1 =>
     cond (decide ((((List.length x) : Nat) : Int) = v20))
       (obind (nthI x (Int.ofNat zj1)) fun z2 =>
        cond (!(Option.isSome (mget (.pr (.i .i64) (.i .i64)) y (z2.1.1, z2.1.2))))
         ((l_splice_Changed_1 N m ((IntKind.wrap .i64 (n + (1 : Int))), (x, (y, (v20, ((maskI v202 zj1), (Int.ofNat zj1))))))))
         (cond (!(decide ((Option.getD (mget (.pr (.i .i64) (.i .i64)) y (z2.1.1, z2.1.2)) (0 : Int)) = z2.2)))
           ((l_splice_Changed_1 N m ((IntKind.wrap .i64 (n + (1 : Int))), (x, (y, (v20, ((maskI v202 zj1), (Int.ofNat zj1))))))))
           ((l_splice_Changed_1 N m (n, (x, (y, (v20, ((maskI v202 zj1), (Int.ofNat zj1))))))))))
       (none))
     (some (n, (x, y))))
   (none) := by kernel_rfl
theorem m_splice_Changed_eq (N : Nat) (a : (List (Int × (Int × Int)))) (b : (List (Int × (Int × Int)))) : m_splice_Changed (N + 1) (a, b) = obind (m_splice_spots N a) fun z1 =>
  obind (m_splice_spots N b) fun z2 =>
  obind (l_splice_Changed_1 N N ((0 : Int), (z1, (z2, ((((List.length z1) : Nat) : Int), ((0 : Nat), (-(1 : Nat)))))))) fun z3 =>
  obind (l_splice_Changed_2 N N (z3.1, (z3.2.1, ((((List.length z3.2.2) : Nat) : Int), ((0 : Nat), ((-(1 : Nat)), z3.2.2)))))) fun z4 =>
  some z4 := by kernel_rfl
theorem c_splice_Changed_ok (N : Nat) : (c_splice_Changed N).ok Try.prog := exF_ok (T := T) (CT := ct_splice_Changed) (N := N) (fun M => ⟨tOk, (ctAll_cons (c_splice_spots_ok M) ctAll_nil), mixed⟩) Try.func23 (by kernel_rfl) (by kernel_rfl) p_splice_Changed [.h (.sl (.pr (.i .i64) (.pr (.i .i64) (.i .i64)))), .h (.sl (.pr (.i .i64) (.pr (.i .i64) (.i .i64))))] [] [(.sl (.pr (.i .i64) (.pr (.i .i64) (.i .i64)))), (.sl (.pr (.i .i64) (.pr (.i .i64) (.i .i64))))] r_splice_Changed false true [] (by kernel_rfl) (fun y => by kernel_rfl) (fun _ => ⟨rfl, rfl⟩) (fun y => by kernel_rfl) (m_splice_Changed N) (fun x => by kernel_rfl)
/-! archipelago/splice.Height -/
noncomputable def ct_splice_Height (N : Nat) : List Ctr := [c_slices_Index_Lint_int N, c_tower_Right N]
def p_splice_Height : Pl := .z
def r_splice_Height : PS := ⟨[(4, .h (.i .i64))], [], [(.i .i64)]⟩
noncomputable def m_splice_Height (N : Nat) : (List Int) × (List Int) × (List (List Int)) × Int → Option (Int) := exF T ct_splice_Height N (bodyOf Try.f21) 22 p_splice_Height [.ag [.h (.sl (.i .i64)), .h (.sl (.i .i64)), .h (.sl (.sl (.i .i64)))], .h (.i .i64)] [] [(.sl (.i .i64)), (.sl (.i .i64)), (.sl (.sl (.i .i64))), (.i .i64)] r_splice_Height
noncomputable def c_splice_Height (N : Nat) : Ctr := ⟨21, [.ag [.h (.sl (.i .i64)), .h (.sl (.i .i64)), .h (.sl (.sl (.i .i64)))], .h (.i .i64)], [], [(.sl (.i .i64)), (.sl (.i .i64)), (.sl (.sl (.i .i64))), (.i .i64)], Tup r_splice_Height.c, m_splice_Height N, fun y _ k => k (resG T (mkPS 22 r_splice_Height y) Try.f21.results.toList) (keepH' [] (mkPS 22 r_splice_Height y).h), false, true⟩
theorem m_splice_Height_eq (N : Nat) (t : (List Int)) (t2 : (List Int)) (t3 : (List (List Int))) (token : Int) : m_splice_Height (N + 1) (t, t2, t3, token) = obind (m_slices_Index_Lint_int N (t, token)) fun z1 =>
  cond (decide (z1 < (0 : Int)))
   (some (0 : Int))
   (obind (m_tower_Right N (t, (t2, t3))) fun z2 =>
    cond (!z2)
     (some (0 : Int))
     (obind (nthI t2 z1) fun z3 =>
      some z3)) := by kernel_rfl
theorem c_splice_Height_ok (N : Nat) : (c_splice_Height N).ok Try.prog := exF_ok (T := T) (CT := ct_splice_Height) (N := N) (fun M => ⟨tOk, (ctAll_cons (c_slices_Index_Lint_int_ok M) (ctAll_cons (c_tower_Right_ok M) ctAll_nil)), mixed⟩) Try.func21 (by kernel_rfl) (by kernel_rfl) p_splice_Height [.ag [.h (.sl (.i .i64)), .h (.sl (.i .i64)), .h (.sl (.sl (.i .i64)))], .h (.i .i64)] [] [(.sl (.i .i64)), (.sl (.i .i64)), (.sl (.sl (.i .i64))), (.i .i64)] r_splice_Height false true [] (by kernel_rfl) (fun y => by kernel_rfl) (fun _ => ⟨rfl, rfl⟩) (fun y => by kernel_rfl) (m_splice_Height N) (fun x => by kernel_rfl)
/-! archipelago/archipelagolaw15.alive -/
noncomputable def ct_law15_alive (N : Nat) : List Ctr := [c_ref14_Build N, c_splice_Cut N, c_splice_Join N, c_splice_From N, c_splice_Links N, c_ref14_Same N, c_ref01_Ints N, c_splice_Changed N, c_splice_Height N]
def p_law15_alive : Pl := .z
def r_law15_alive : PS := ⟨[(0, .h .b)], [], [.b]⟩
noncomputable def m_law15_alive (N : Nat) : Unit → Option (Bool) := exF T ct_law15_alive N (bodyOf Try.f9) 128 p_law15_alive [] [] [] r_law15_alive
noncomputable def c_law15_alive (N : Nat) : Ctr := ⟨9, [], [], [], Tup r_law15_alive.c, m_law15_alive N, fun y _ k => k (resG T (mkPS 128 r_law15_alive y) Try.f9.results.toList) (keepH' [] (mkPS 128 r_law15_alive y).h), false, true⟩
theorem m_law15_alive_eq (N : Nat) : m_law15_alive (N + 1) () = obind (m_ref14_Build N ([(0 : Int), (1 : Int), (2 : Int), (3 : Int)], [(1 : Int), (3 : Int), (1 : Int), (2 : Int)])) fun z1 =>
  obind (m_splice_Cut N (z1.2.1, (z1.2.2.1, (z1.2.2.2, ((1 : Int), (2 : Int)))))) fun z2 =>
  obind (m_splice_Join N (z2.2.1, (z2.2.2.1, (z2.2.2.2.1, ((1 : Int), (z2.2.2.2.2.1, (z2.2.2.2.2.2.1, (z2.2.2.2.2.2.2, (2 : Int))))))))) fun z3 =>
  obind (m_splice_From N (z1.2.1, (z1.2.2.1, (z1.2.2.2, (2 : Int))))) fun z4 =>
  obind (m_splice_Links N (z1.2.1, (z1.2.2.1, z1.2.2.2))) fun z5 =>
  obind (m_splice_Links N (z2.2.1, (z2.2.2.1, z2.2.2.2.1))) fun z6 =>
  obind (m_splice_Cut N (z1.2.1, (z1.2.2.1, (z1.2.2.2, ((1 : Int), (1 : Int)))))) fun z7 =>
  cond z2.1
   (cond z3.1
     (cond z4.1
       (cond (!z7.1)
         (obind (m_ref14_Same N (z3.2.1, (z3.2.2.1, (z3.2.2.2, (z1.2.1, (z1.2.2.1, z1.2.2.2)))))) fun z8 =>
          cond z8
           (obind (m_ref01_Ints N (z2.2.1, [(0 : Int), (1 : Int), (3 : Int)])) fun z9 =>
            cond z9
             (obind (m_ref01_Ints N (z2.2.2.2.2.2.1, [(1 : Int)])) fun z10 =>
              cond z10
               (obind (m_ref01_Ints N (z4.2.2.1, [(1 : Int), (2 : Int), (1 : Int), (3 : Int)])) fun z11 =>
                cond z11
                 (cond (decide ((((List.length z5) : Nat) : Int) = (7 : Int)))
                   (obind (nthI z5 (1 : Int)) fun z12 =>
                    obind (nthI z5 (1 : Int)) fun z13 =>
                    cond ((decide (z13.1 = (1 : Int))) && ((decide (z13.2.1 = (0 : Int))) && (decide (z13.2.2 = (2 : Int)))))
                     (obind (nthI z5 (3 : Int)) fun z14 =>
                      obind (nthI z5 (3 : Int)) fun z15 =>
                      cond ((decide (z15.1 = (1 : Int))) && ((decide (z15.2.1 = (2 : Int))) && (decide (z15.2.2 = (1 : Int)))))
                       (cond (decide ((((List.length z6) : Nat) : Int) = (6 : Int)))
                         (obind (m_splice_Changed N (z5, z6)) fun z16 =>
                          cond (decide (z16 = (2 : Int)))
                           (obind (m_splice_Changed N (z5, z5)) fun z17 =>
                            cond (decide (z17 = (0 : Int)))
                             (obind (m_splice_Height N (z1.2.1, (z1.2.2.1, (z1.2.2.2, (3 : Int))))) fun z18 =>
                              cond (decide (z18 = (2 : Int)))
                               (obind (m_splice_Height N (z1.2.1, (z1.2.2.1, (z1.2.2.2, (9 : Int))))) fun z19 =>
                                some (decide (z19 = (0 : Int))))
                               (some false))
                             (some false))
                           (some false))
                         (some false))
                       (some false))
                     (some false))
                   (some false))
                 (some false))
               (some false))
             (some false))
           (some false))
         (some false))
       (some false))
     (some false))
   (some false) := by kernel_rfl
theorem c_law15_alive_ok (N : Nat) : (c_law15_alive N).ok Try.prog := exF_ok (T := T) (CT := ct_law15_alive) (N := N) (fun M => ⟨tOk, (ctAll_cons (c_ref14_Build_ok M) (ctAll_cons (c_splice_Cut_ok M) (ctAll_cons (c_splice_Join_ok M) (ctAll_cons (c_splice_From_ok M) (ctAll_cons (c_splice_Links_ok M) (ctAll_cons (c_ref14_Same_ok M) (ctAll_cons (c_ref01_Ints_ok M) (ctAll_cons (c_splice_Changed_ok M) (ctAll_cons (c_splice_Height_ok M) ctAll_nil))))))))), mixed⟩) Try.func9 (by kernel_rfl) (by kernel_rfl) p_law15_alive [] [] [] r_law15_alive false true [] (by kernel_rfl) (fun y => by kernel_rfl) (fun _ => ⟨rfl, rfl⟩) (fun y => by kernel_rfl) (m_law15_alive N) (fun x => by kernel_rfl)
/-! archipelago/archipelagoref14.Great -/
noncomputable def ct_ref14_Great (N : Nat) : List Ctr := []
def i_ref14_Great_1 : PS := ⟨[(1, .h (.i .i64)), (2, .k (.pt 900 0)), (5, .h (.i .i64)), (6, .h (.i .i64))], [(900, .box 25 [.h (.sl (.i .i64)), .h (.sl (.i .i64)), .h (.sl (.sl (.i .i64)))])], [(.i .i64), (.i .i64), (.i .i64), (.sl (.i .i64)), (.sl (.i .i64)), (.sl (.sl (.i .i64)))]⟩
def o_ref14_Great_1 : List (Exit × PS) := [((.exit 0), ⟨[(1, .h (.i .i64)), (5, .h (.i .i64))], [], [(.i .i64), (.i .i64)]⟩)]
def p_ref14_Great_1 : Pl := .z
noncomputable def l_ref14_Great_1 (N : Nat) : Nat → Int × Int × Int × (List Int) × (List Int) × (List (List Int)) → Option (Int × Int) := loopF (exC T (ct_ref14_Great N) N (codeAt [1, 1, 0, 1, 0, 0] (bodyOf Try.f10))) 41 i_ref14_Great_1 o_ref14_Great_1 p_ref14_Great_1
def p_ref14_Great : Pl := (.n .z (.n .z (.n (.n .z (.n (.loop i_ref14_Great_1 o_ref14_Great_1 p_ref14_Great_1) .z)) .z)))
def r_ref14_Great : PS := ⟨[(4, .h .b)], [], [.b]⟩
noncomputable def m_ref14_Great (N : Nat) : (List Int) × (List Int) × (List (List Int)) × Int → Option (Bool) := exF T ct_ref14_Great N (bodyOf Try.f10) 41 p_ref14_Great [.ag [.h (.sl (.i .i64)), .h (.sl (.i .i64)), .h (.sl (.sl (.i .i64)))], .h (.i .i64)] [] [(.sl (.i .i64)), (.sl (.i .i64)), (.sl (.sl (.i .i64))), (.i .i64)] r_ref14_Great
noncomputable def c_ref14_Great (N : Nat) : Ctr := ⟨10, [.ag [.h (.sl (.i .i64)), .h (.sl (.i .i64)), .h (.sl (.sl (.i .i64)))], .h (.i .i64)], [], [(.sl (.i .i64)), (.sl (.i .i64)), (.sl (.sl (.i .i64))), (.i .i64)], Tup r_ref14_Great.c, m_ref14_Great N, fun y _ k => k (resG T (mkPS 41 r_ref14_Great y) Try.f10.results.toList) (keepH' [] (mkPS 41 r_ref14_Great y).h), false, true⟩
theorem l_ref14_Great_1_z (N : Nat) (v : Int × Int × Int × (List Int) × (List Int) × (List (List Int))) : l_ref14_Great_1 N 0 v = none := by kernel_rfl
theorem l_ref14_Great_1_s (N m : Nat) (most : Int) (n : Int) (i : Int) (t : (List Int)) (t2 : (List Int)) (t3 : (List (List Int))) : l_ref14_Great_1 N (m + 1) (most, n, i, t, t2, t3) = cond (decide (i < (((List.length t3) : Nat) : Int)))
   (cond (decide (n ≤ most))
     (obind (nthI t3 i) fun z1 =>
      (l_ref14_Great_1 N m (most, ((IntKind.wrap .i64 (n + (((List.length z1) : Nat) : Int))), ((IntKind.wrap .i64 (i + (1 : Int))), (t, (t2, t3)))))))
     (some (most, n)))
   (some (most, n)) := by kernel_rfl
theorem m_ref14_Great_eq (N : Nat) (t : (List Int)) (t2 : (List Int)) (t3 : (List (List Int))) (most : Int) : m_ref14_Great (N + 1) (t, t2, t3, most) = obind (l_ref14_Great_1 N N (most, ((IntKind.wrap .i64 ((IntKind.wrap .i64 ((((List.length t) : Nat) : Int) + (((List.length t2) : Nat) : Int))) + (((List.length t3) : Nat) : Int))), ((0 : Int), (t, (t2, t3)))))) fun z1 =>
  some (decide (z1.1 < z1.2)) := by kernel_rfl
theorem c_ref14_Great_ok (N : Nat) : (c_ref14_Great N).ok Try.prog := exF_ok (T := T) (CT := ct_ref14_Great) (N := N) (fun M => ⟨tOk, ctAll_nil, mixed⟩) Try.func10 (by kernel_rfl) (by kernel_rfl) p_ref14_Great [.ag [.h (.sl (.i .i64)), .h (.sl (.i .i64)), .h (.sl (.sl (.i .i64)))], .h (.i .i64)] [] [(.sl (.i .i64)), (.sl (.i .i64)), (.sl (.sl (.i .i64))), (.i .i64)] r_ref14_Great false true [] (by kernel_rfl) (fun y => by kernel_rfl) (fun _ => ⟨rfl, rfl⟩) (fun y => by kernel_rfl) (m_ref14_Great N) (fun x => by kernel_rfl)
/-! archipelago/archipelagoref14.Right -/
noncomputable def ct_ref14_Right (N : Nat) : List Ctr := [c_ref14_Build N, c_ref14_Same N]
def p_ref14_Right : Pl := .z
def r_ref14_Right : PS := ⟨[(2, .h .b)], [], [.b]⟩
noncomputable def m_ref14_Right (N : Nat) : (List Int) × (List Int) × (List (List Int)) → Option (Bool) := exF T ct_ref14_Right N (bodyOf Try.f25) 20 p_ref14_Right [.ag [.h (.sl (.i .i64)), .h (.sl (.i .i64)), .h (.sl (.sl (.i .i64)))]] [] [(.sl (.i .i64)), (.sl (.i .i64)), (.sl (.sl (.i .i64)))] r_ref14_Right
noncomputable def c_ref14_Right (N : Nat) : Ctr := ⟨25, [.ag [.h (.sl (.i .i64)), .h (.sl (.i .i64)), .h (.sl (.sl (.i .i64)))]], [], [(.sl (.i .i64)), (.sl (.i .i64)), (.sl (.sl (.i .i64)))], Tup r_ref14_Right.c, m_ref14_Right N, fun y _ k => k (resG T (mkPS 20 r_ref14_Right y) Try.f25.results.toList) (keepH' [] (mkPS 20 r_ref14_Right y).h), false, true⟩
theorem m_ref14_Right_eq (N : Nat) (t : (List Int)) (t2 : (List Int)) (t3 : (List (List Int))) : m_ref14_Right (N + 1) (t, t2, t3) = obind (m_ref14_Build N (t, t2)) fun z1 =>
  cond (decide (z1.1 = (0 : Int)))
   (obind (m_ref14_Same N (z1.2.1, (z1.2.2.1, (z1.2.2.2, (t, (t2, t3)))))) fun z2 =>
    some z2)
   (some false) := by kernel_rfl
theorem c_ref14_Right_ok (N : Nat) : (c_ref14_Right N).ok Try.prog := exF_ok (T := T) (CT := ct_ref14_Right) (N := N) (fun M => ⟨tOk, (ctAll_cons (c_ref14_Build_ok M) (ctAll_cons (c_ref14_Same_ok M) ctAll_nil)), mixed⟩) Try.func25 (by kernel_rfl) (by kernel_rfl) p_ref14_Right [.ag [.h (.sl (.i .i64)), .h (.sl (.i .i64)), .h (.sl (.sl (.i .i64)))]] [] [(.sl (.i .i64)), (.sl (.i .i64)), (.sl (.sl (.i .i64)))] r_ref14_Right false true [] (by kernel_rfl) (fun y => by kernel_rfl) (fun _ => ⟨rfl, rfl⟩) (fun y => by kernel_rfl) (m_ref14_Right N) (fun x => by kernel_rfl)
/-! archipelago/archipelagoref13.From -/
noncomputable def ct_ref13_From (N : Nat) : List Ctr := [c_ref13_Place N, c_ref13_Right N]
def p_ref13_From : Pl := .z
def r_ref13_From : PS := ⟨[(4, .k (.ow 900)), (5, .h .b)], [(900, .arr 3 (.i .i64) true)], [.b, (.sl (.i .i64))]⟩
noncomputable def m_ref13_From (N : Nat) : (List Int) × Int → Option (Bool × (List Int)) := exF T ct_ref13_From N (bodyOf Try.f37) 26 p_ref13_From [.h (.sl (.i .i64)), .h (.i .i64)] [] [(.sl (.i .i64)), (.i .i64)] r_ref13_From
noncomputable def c_ref13_From (N : Nat) : Ctr := ⟨37, [.h (.sl (.i .i64)), .h (.i .i64)], [], [(.sl (.i .i64)), (.i .i64)], Tup r_ref13_From.c, m_ref13_From N, fun y _ k => k (resG T (mkPS 26 r_ref13_From y) Try.f37.results.toList) (keepH' [900] (mkPS 26 r_ref13_From y).h), true, true⟩
theorem m_ref13_From_eq (N : Nat) (l : (List Int)) (token : Int) : m_ref13_From (N + 1) (l, token) = obind (m_ref13_Place N (l, token)) fun z1 =>
  obind (m_ref13_Right N l) fun z2 =>
  cond (!z2)
   (some (false, []))
   (cond (decide (z1 < (0 : Int)))
     (some (false, []))
     (obind (subI l z1 (((List.length l) : Nat) : Int)) fun z3 =>
      obind (appI (8 : Nat) [] z3) fun z4 =>
      obind (subI l (0 : Int) z1) fun z5 =>
      obind (appI (8 : Nat) z4 z5) fun z6 =>
      some (true, z6))) := by kernel_rfl
theorem c_ref13_From_ok (N : Nat) : (c_ref13_From N).ok Try.prog := exF_ok (T := T) (CT := ct_ref13_From) (N := N) (fun M => ⟨tOk, (ctAll_cons (c_ref13_Place_ok M) (ctAll_cons (c_ref13_Right_ok M) ctAll_nil)), mixed⟩) Try.func37 (by kernel_rfl) (by kernel_rfl) p_ref13_From [.h (.sl (.i .i64)), .h (.i .i64)] [] [(.sl (.i .i64)), (.i .i64)] r_ref13_From true true [900] (by kernel_rfl) (fun y => by kernel_rfl) (fun h => by cases h) (fun y => by kernel_rfl) (m_ref13_From N) (fun x => by kernel_rfl)
/-! archipelago/archipelagoref13.Plain -/
noncomputable def ct_ref13_Plain (N : Nat) : List Ctr := [c_ref13_Right N, c_ref13_From N]
def i_ref13_Plain_1 : PS := ⟨[(0, .h (.sl (.i .i64))), (3, .h (.i .i64)), (4, .h (.i .i64))], [], [(.sl (.i .i64)), (.i .i64), (.i .i64)]⟩
def o_ref13_Plain_1 : List (Exit × PS) := [((.exit 0), ⟨[(0, .h (.sl (.i .i64))), (3, .h (.i .i64))], [], [(.sl (.i .i64)), (.i .i64)]⟩)]
def p_ref13_Plain_1 : Pl := .z
noncomputable def l_ref13_Plain_1 (N : Nat) : Nat → (List Int) × Int × Int → Option ((List Int) × Int) := loopF (exC T (ct_ref13_Plain N) N (codeAt [1, 1, 1, 0, 1, 0, 0] (bodyOf Try.f50))) 37 i_ref13_Plain_1 o_ref13_Plain_1 p_ref13_Plain_1
def p_ref13_Plain : Pl := (.n .z (.n .z (.n .z (.n (.n .z (.n (.loop i_ref13_Plain_1 o_ref13_Plain_1 p_ref13_Plain_1) .z)) .z))))
def r_ref13_Plain : PS := ⟨[(2, .k (.ow 900))], [(900, .arr 3 (.i .i64) true)], [(.sl (.i .i64))]⟩
noncomputable def m_ref13_Plain (N : Nat) : (List Int) → Option ((List Int)) := exF T ct_ref13_Plain N (bodyOf Try.f50) 37 p_ref13_Plain [.h (.sl (.i .i64))] [] [(.sl (.i .i64))] r_ref13_Plain
noncomputable def c_ref13_Plain (N : Nat) : Ctr := ⟨50, [.h (.sl (.i .i64))], [], [(.sl (.i .i64))], Tup r_ref13_Plain.c, m_ref13_Plain N, fun y _ k => k (resG T (mkPS 37 r_ref13_Plain y) Try.f50.results.toList) (keepH' [900] (mkPS 37 r_ref13_Plain y).h), true, true⟩
theorem l_ref13_Plain_1_z (N : Nat) (v : (List Int) × Int × Int) : l_ref13_Plain_1 N 0 v = none := by kernel_rfl
theorem l_ref13_Plain_1_s (N m : Nat) (l : (List Int)) (least : Int) (i : Int) : l_ref13_Plain_1 N (m + 1) (l, least, i) = cond (decide (i < (((List.length l) : Nat) : Int)))
   (obind (nthI l i) fun z1 =>
    (l_ref13_Plain_1 N m (l, ((if (z1 < least) then z1 else least), (IntKind.wrap .i64 (i + (1 : Int)))))))
   (some (l, least)) := by kernel_rfl
theorem m_ref13_Plain_eq (N : Nat) (l : (List Int)) : m_ref13_Plain (N + 1) (l) = obind (m_ref13_Right N l) fun z1 =>
  cond (!z1)
   (some [])
   (cond (decide ((((List.length l) : Nat) : Int) = (0 : Int)))
     (some [])
     (obind (nthI l (0 : Int)) fun z2 =>
      obind (l_ref13_Plain_1 N N (l, (z2, (0 : Int)))) fun z3 =>
      obind (m_ref13_From N (z3.1, z3.2)) fun z4 =>
      some z4.2)) := by kernel_rfl
theorem c_ref13_Plain_ok (N : Nat) : (c_ref13_Plain N).ok Try.prog := exF_ok (T := T) (CT := ct_ref13_Plain) (N := N) (fun M => ⟨tOk, (ctAll_cons (c_ref13_Right_ok M) (ctAll_cons (c_ref13_From_ok M) ctAll_nil)), mixed⟩) Try.func50 (by kernel_rfl) (by kernel_rfl) p_ref13_Plain [.h (.sl (.i .i64))] [] [(.sl (.i .i64))] r_ref13_Plain true true [900] (by kernel_rfl) (fun y => by kernel_rfl) (fun h => by cases h) (fun y => by kernel_rfl) (m_ref13_Plain N) (fun x => by kernel_rfl)
/-! archipelago/archipelagoref13.Join -/
noncomputable def ct_ref13_Join (N : Nat) : List Ctr := [c_ref13_From N, c_ref13_Right N, c_ref13_Place N, c_ref13_Plain N]
def p_ref13_Join : Pl := .z
def r_ref13_Join : PS := ⟨[(8, .k (.ow 900)), (9, .h .b)], [(900, .arr 3 (.i .i64) true)], [.b, (.sl (.i .i64))]⟩
noncomputable def m_ref13_Join (N : Nat) : (List Int) × Int × (List Int) × Int → Option (Bool × (List Int)) := exF T ct_ref13_Join N (bodyOf Try.f32) 55 p_ref13_Join [.h (.sl (.i .i64)), .h (.i .i64), .h (.sl (.i .i64)), .h (.i .i64)] [] [(.sl (.i .i64)), (.i .i64), (.sl (.i .i64)), (.i .i64)] r_ref13_Join
noncomputable def c_ref13_Join (N : Nat) : Ctr := ⟨32, [.h (.sl (.i .i64)), .h (.i .i64), .h (.sl (.i .i64)), .h (.i .i64)], [], [(.sl (.i .i64)), (.i .i64), (.sl (.i .i64)), (.i .i64)], Tup r_ref13_Join.c, m_ref13_Join N, fun y _ k => k (resG T (mkPS 55 r_ref13_Join y) Try.f32.results.toList) (keepH' [900] (mkPS 55 r_ref13_Join y).h), true, true⟩
theorem m_ref13_Join_eq (N : Nat) (a : (List Int)) (x : Int) (b : (List Int)) (y : Int) : m_ref13_Join (N + 1) (a, x, b, y) = obind (m_ref13_From N (b, y)) fun z1 =>
  obind (m_ref13_Right N a) fun z2 =>
  cond (!z2)
   (some (false, []))
   (obind (m_ref13_Place N (a, x)) fun z3 =>
    cond (decide (z3 < (0 : Int)))
     (some (false, []))
     (cond (!z1.1)
       (some (false, []))
       (obind (m_ref13_Plain N a) fun z4 =>
        obind (m_ref13_Place N (z4, x)) fun z5 =>
        obind (subI z4 (0 : Int) (IntKind.wrap .i64 (z5 + (1 : Int)))) fun z6 =>
        obind (appI (8 : Nat) [] z6) fun z7 =>
        obind (appI (8 : Nat) z7 z1.2) fun z8 =>
        obind (subI z4 (IntKind.wrap .i64 (z5 + (1 : Int))) (((List.length z4) : Nat) : Int)) fun z9 =>
        obind (appI (8 : Nat) z8 z9) fun z10 =>
        obind (m_ref13_Right N z10) fun z11 =>
        cond (!z11)
         (some (false, []))
         (some (true, z10))))) := by kernel_rfl
theorem c_ref13_Join_ok (N : Nat) : (c_ref13_Join N).ok Try.prog := exF_ok (T := T) (CT := ct_ref13_Join) (N := N) (fun M => ⟨tOk, (ctAll_cons (c_ref13_From_ok M) (ctAll_cons (c_ref13_Right_ok M) (ctAll_cons (c_ref13_Place_ok M) (ctAll_cons (c_ref13_Plain_ok M) ctAll_nil)))), mixed⟩) Try.func32 (by kernel_rfl) (by kernel_rfl) p_ref13_Join [.h (.sl (.i .i64)), .h (.i .i64), .h (.sl (.i .i64)), .h (.i .i64)] [] [(.sl (.i .i64)), (.i .i64), (.sl (.i .i64)), (.i .i64)] r_ref13_Join true true [900] (by kernel_rfl) (fun y => by kernel_rfl) (fun h => by cases h) (fun y => by kernel_rfl) (m_ref13_Join N) (fun x => by kernel_rfl)
/-! archipelago/archipelagoref15.Height -/
noncomputable def ct_ref15_Height (N : Nat) : List Ctr := [c_ref13_Place N, c_ref14_Right N]
def p_ref15_Height : Pl := .z
def r_ref15_Height : PS := ⟨[(4, .h (.i .i64))], [], [(.i .i64)]⟩
noncomputable def m_ref15_Height (N : Nat) : (List Int) × (List Int) × (List (List Int)) × Int → Option (Int) := exF T ct_ref15_Height N (bodyOf Try.f22) 22 p_ref15_Height [.ag [.h (.sl (.i .i64)), .h (.sl (.i .i64)), .h (.sl (.sl (.i .i64)))], .h (.i .i64)] [] [(.sl (.i .i64)), (.sl (.i .i64)), (.sl (.sl (.i .i64))), (.i .i64)] r_ref15_Height
noncomputable def c_ref15_Height (N : Nat) : Ctr := ⟨22, [.ag [.h (.sl (.i .i64)), .h (.sl (.i .i64)), .h (.sl (.sl (.i .i64)))], .h (.i .i64)], [], [(.sl (.i .i64)), (.sl (.i .i64)), (.sl (.sl (.i .i64))), (.i .i64)], Tup r_ref15_Height.c, m_ref15_Height N, fun y _ k => k (resG T (mkPS 22 r_ref15_Height y) Try.f22.results.toList) (keepH' [] (mkPS 22 r_ref15_Height y).h), false, true⟩
theorem m_ref15_Height_eq (N : Nat) (t : (List Int)) (t2 : (List Int)) (t3 : (List (List Int))) (token : Int) : m_ref15_Height (N + 1) (t, t2, t3, token) = obind (m_ref13_Place N (t, token)) fun z1 =>
  obind (m_ref14_Right N (t, (t2, t3))) fun z2 =>
  cond (!z2)
   (some (0 : Int))
   (cond (decide (z1 < (0 : Int)))
     (some (0 : Int))
     (obind (nthI t2 z1) fun z3 =>
      some z3)) := by kernel_rfl
theorem c_ref15_Height_ok (N : Nat) : (c_ref15_Height N).ok Try.prog := exF_ok (T := T) (CT := ct_ref15_Height) (N := N) (fun M => ⟨tOk, (ctAll_cons (c_ref13_Place_ok M) (ctAll_cons (c_ref14_Right_ok M) ctAll_nil)), mixed⟩) Try.func22 (by kernel_rfl) (by kernel_rfl) p_ref15_Height [.ag [.h (.sl (.i .i64)), .h (.sl (.i .i64)), .h (.sl (.sl (.i .i64)))], .h (.i .i64)] [] [(.sl (.i .i64)), (.sl (.i .i64)), (.sl (.sl (.i .i64))), (.i .i64)] r_ref15_Height false true [] (by kernel_rfl) (fun y => by kernel_rfl) (fun _ => ⟨rfl, rfl⟩) (fun y => by kernel_rfl) (m_ref15_Height N) (fun x => by kernel_rfl)
/-! archipelago/archipelagoref15.built -/
noncomputable def ct_ref15_built (N : Nat) : List Ctr := [c_ref15_Height N, c_ref14_Build N]
def i_ref15_built_1 : PS := ⟨[(0, .h (.sl (.i .i64))), (4, .k (.pt 900 0)), (5, .k (.pt 901 0)), (6, .k (.pt 902 0)), (8, .k (.ow 903)), (9, .h (.i .i64))], [(900, .box 25 [.h (.sl (.i .i64)), .h (.sl (.i .i64)), .h (.sl (.sl (.i .i64)))]), (901, .box 25 [.h (.sl (.i .i64)), .h (.sl (.i .i64)), .h (.sl (.sl (.i .i64)))]), (902, .box 25 [.k .nil, .k .nil, .k .nil]), (903, .arr 3 (.i .i64) true)], [(.sl (.i .i64)), (.i .i64), (.sl (.i .i64)), (.sl (.i .i64)), (.sl (.sl (.i .i64))), (.sl (.i .i64)), (.sl (.i .i64)), (.sl (.sl (.i .i64))), (.sl (.i .i64))]⟩
def o_ref15_built_1 : List (Exit × PS) := [((.exit 0), ⟨[(0, .h (.sl (.i .i64))), (6, .k (.pt 900 0)), (8, .k (.ow 901))], [(900, .box 25 [.k .nil, .k .nil, .k .nil]), (901, .arr 3 (.i .i64) true)], [(.sl (.i .i64)), (.sl (.i .i64))]⟩)]
def p_ref15_built_1 : Pl := .z
noncomputable def l_ref15_built_1 (N : Nat) : Nat → (List Int) × Int × (List Int) × (List Int) × (List (List Int)) × (List Int) × (List Int) × (List (List Int)) × (List Int) → Option ((List Int) × (List Int)) := loopF (exC T (ct_ref15_built N) N (codeAt [1, 1, 0, 1, 0, 0] (bodyOf Try.f33))) 43 i_ref15_built_1 o_ref15_built_1 p_ref15_built_1
def p_ref15_built : Pl := (.n .z (.n .z (.n (.n .z (.n (.loop i_ref15_built_1 o_ref15_built_1 p_ref15_built_1) .z)) .z)))
def r_ref15_built : PS := ⟨[(6, .k (.pt 900 0)), (7, .h .b)], [(900, .box 25 [.h (.sl (.i .i64)), .h (.sl (.i .i64)), .h (.sl (.sl (.i .i64)))])], [.b, (.sl (.i .i64)), (.sl (.i .i64)), (.sl (.sl (.i .i64)))]⟩
noncomputable def m_ref15_built (N : Nat) : (List Int) × (List Int) × (List Int) × (List (List Int)) × (List Int) × (List Int) × (List (List Int)) → Option (Bool × (List Int) × (List Int) × (List (List Int))) := exF T ct_ref15_built N (bodyOf Try.f33) 43 p_ref15_built [.h (.sl (.i .i64)), .ag [.h (.sl (.i .i64)), .h (.sl (.i .i64)), .h (.sl (.sl (.i .i64)))], .ag [.h (.sl (.i .i64)), .h (.sl (.i .i64)), .h (.sl (.sl (.i .i64)))]] [] [(.sl (.i .i64)), (.sl (.i .i64)), (.sl (.i .i64)), (.sl (.sl (.i .i64))), (.sl (.i .i64)), (.sl (.i .i64)), (.sl (.sl (.i .i64)))] r_ref15_built
noncomputable def c_ref15_built (N : Nat) : Ctr := ⟨33, [.h (.sl (.i .i64)), .ag [.h (.sl (.i .i64)), .h (.sl (.i .i64)), .h (.sl (.sl (.i .i64)))], .ag [.h (.sl (.i .i64)), .h (.sl (.i .i64)), .h (.sl (.sl (.i .i64)))]], [], [(.sl (.i .i64)), (.sl (.i .i64)), (.sl (.i .i64)), (.sl (.sl (.i .i64))), (.sl (.i .i64)), (.sl (.i .i64)), (.sl (.sl (.i .i64)))], Tup r_ref15_built.c, m_ref15_built N, fun y _ k => k (resG T (mkPS 43 r_ref15_built y) Try.f33.results.toList) (keepH' [] (mkPS 43 r_ref15_built y).h), false, false⟩
theorem l_ref15_built_1_z (N : Nat) (v : (List Int) × Int × (List Int) × (List Int) × (List (List Int)) × (List Int) × (List Int) × (List (List Int)) × (List Int)) : l_ref15_built_1 N 0 v = none := by kernel_rfl
theorem l_ref15_built_1_s (N m : Nat) (l : (List Int)) (i : Int) (a : (List Int)) (a2 : (List Int)) (a3 : (List (List Int))) (b : (List Int)) (b2 : (List Int)) (b3 : (List (List Int))) (heights : (List Int)) : l_ref15_built_1 N (m + 1) (l, i, a, a2, a3, b, b2, b3, heights) = cond (decide (i < (((List.length l) : Nat) : Int)))
   (obind (nthI l i) fun z1 =>
    obind (m_ref15_Height N (a, (a2, (a3, z1)))) fun z2 =>
    obind (nthI l i) fun z3 =>
    obind (m_ref15_Height N (b, (b2, (b3, z3)))) fun z4 =>
    obind (appI (8 : Nat) heights [(if (z4 > z2) then z4 else z2)]) fun z5 =>
    (l_ref15_built_1 N m (l, ((IntKind.wrap .i64 (i + (1 : Int))), (a, (a2, (a3, (b, (b2, (b3, z5))))))))))
   (some (l, heights)) := by kernel_rfl
theorem m_ref15_built_eq (N : Nat) (l : (List Int)) (a : (List Int)) (a2 : (List Int)) (a3 : (List (List Int))) (b : (List Int)) (b2 : (List Int)) (b3 : (List (List Int))) : m_ref15_built (N + 1) (l, a, a2, a3, b, b2, b3) = obind (l_ref15_built_1 N N (l, ((0 : Int), (a, (a2, (a3, (b, (b2, (b3, []))))))))) fun z1 =>
  obind (m_ref14_Build N (z1.1, z1.2)) fun z2 =>
  some ((decide (z2.1 = (0 : Int))), (z2.2.1, (z2.2.2.1, z2.2.2.2))) := by kernel_rfl
theorem c_ref15_built_ok (N : Nat) : (c_ref15_built N).ok Try.prog := exF_ok (T := T) (CT := ct_ref15_built) (N := N) (fun M => ⟨tOk, (ctAll_cons (c_ref15_Height_ok M) (ctAll_cons (c_ref14_Build_ok M) ctAll_nil)), mixed⟩) Try.func33 (by kernel_rfl) (by kernel_rfl) p_ref15_built [.h (.sl (.i .i64)), .ag [.h (.sl (.i .i64)), .h (.sl (.i .i64)), .h (.sl (.sl (.i .i64)))], .ag [.h (.sl (.i .i64)), .h (.sl (.i .i64)), .h (.sl (.sl (.i .i64)))]] [] [(.sl (.i .i64)), (.sl (.i .i64)), (.sl (.i .i64)), (.sl (.sl (.i .i64))), (.sl (.i .i64)), (.sl (.i .i64)), (.sl (.sl (.i .i64)))] r_ref15_built false false [] (by kernel_rfl) (fun y => by kernel_rfl) (fun _ => ⟨rfl, rfl⟩) (fun y => by kernel_rfl) (m_ref15_built N) (fun x => by kernel_rfl)
/-! archipelago/archipelagoref15.Join -/
noncomputable def ct_ref15_Join (N : Nat) : List Ctr := [c_ref14_Right N, c_ref13_Join N, c_ref15_built N]
def p_ref15_Join : Pl := .z
def r_ref15_Join : PS := ⟨[(8, .k (.pt 900 0)), (9, .h .b)], [(900, .box 25 [.h (.sl (.i .i64)), .h (.sl (.i .i64)), .h (.sl (.sl (.i .i64)))])], [.b, (.sl (.i .i64)), (.sl (.i .i64)), (.sl (.sl (.i .i64)))]⟩
noncomputable def m_ref15_Join (N : Nat) : (List Int) × (List Int) × (List (List Int)) × Int × (List Int) × (List Int) × (List (List Int)) × Int → Option (Bool × (List Int) × (List Int) × (List (List Int))) := exF T ct_ref15_Join N (bodyOf Try.f12) 40 p_ref15_Join [.ag [.h (.sl (.i .i64)), .h (.sl (.i .i64)), .h (.sl (.sl (.i .i64)))], .h (.i .i64), .ag [.h (.sl (.i .i64)), .h (.sl (.i .i64)), .h (.sl (.sl (.i .i64)))], .h (.i .i64)] [] [(.sl (.i .i64)), (.sl (.i .i64)), (.sl (.sl (.i .i64))), (.i .i64), (.sl (.i .i64)), (.sl (.i .i64)), (.sl (.sl (.i .i64))), (.i .i64)] r_ref15_Join
noncomputable def c_ref15_Join (N : Nat) : Ctr := ⟨12, [.ag [.h (.sl (.i .i64)), .h (.sl (.i .i64)), .h (.sl (.sl (.i .i64)))], .h (.i .i64), .ag [.h (.sl (.i .i64)), .h (.sl (.i .i64)), .h (.sl (.sl (.i .i64)))], .h (.i .i64)], [], [(.sl (.i .i64)), (.sl (.i .i64)), (.sl (.sl (.i .i64))), (.i .i64), (.sl (.i .i64)), (.sl (.i .i64)), (.sl (.sl (.i .i64))), (.i .i64)], Tup r_ref15_Join.c, m_ref15_Join N, fun y _ k => k (resG T (mkPS 40 r_ref15_Join y) Try.f12.results.toList) (keepH' [] (mkPS 40 r_ref15_Join y).h), false, false⟩
theorem m_ref15_Join_eq (N : Nat) (a : (List Int)) (a2 : (List Int)) (a3 : (List (List Int))) (x : Int) (b : (List Int)) (b2 : (List Int)) (b3 : (List (List Int))) (y : Int) : m_ref15_Join (N + 1) (a, a2, a3, x, b, b2, b3, y) = obind (m_ref14_Right N (a, (a2, a3))) fun z1 =>
  cond (!z1)
   (some (false, ([], ([], []))))
   (obind (m_ref14_Right N (b, (b2, b3))) fun z2 =>
    cond (!z2)
     (some (false, ([], ([], []))))
     (obind (m_ref13_Join N (a, (x, (b, y)))) fun z3 =>
      cond (!z3.1)
       (some (false, ([], ([], []))))
       (obind (m_ref15_built N (z3.2, (a, (a2, (a3, (b, (b2, b3))))))) fun z4 =>
        some (z4.1, (z4.2.1, (z4.2.2.1, z4.2.2.2)))))) := by kernel_rfl
theorem c_ref15_Join_ok (N : Nat) : (c_ref15_Join N).ok Try.prog := exF_ok (T := T) (CT := ct_ref15_Join) (N := N) (fun M => ⟨tOk, (ctAll_cons (c_ref14_Right_ok M) (ctAll_cons (c_ref13_Join_ok M) (ctAll_cons (c_ref15_built_ok M) ctAll_nil))), mixed⟩) Try.func12 (by kernel_rfl) (by kernel_rfl) p_ref15_Join [.ag [.h (.sl (.i .i64)), .h (.sl (.i .i64)), .h (.sl (.sl (.i .i64)))], .h (.i .i64), .ag [.h (.sl (.i .i64)), .h (.sl (.i .i64)), .h (.sl (.sl (.i .i64)))], .h (.i .i64)] [] [(.sl (.i .i64)), (.sl (.i .i64)), (.sl (.sl (.i .i64))), (.i .i64), (.sl (.i .i64)), (.sl (.i .i64)), (.sl (.sl (.i .i64))), (.i .i64)] r_ref15_Join false false [] (by kernel_rfl) (fun y => by kernel_rfl) (fun _ => ⟨rfl, rfl⟩) (fun y => by kernel_rfl) (m_ref15_Join N) (fun x => by kernel_rfl)
/-! archipelago/archipelagoref13.Cut -/
noncomputable def ct_ref13_Cut (N : Nat) : List Ctr := [c_ref13_Right N, c_ref13_Place N]
def i_ref13_Cut_2 : PS := ⟨[(0, .h (.sl (.i .i64))), (9, .k (.ow 901)), (10, .k (.ow 900)), (11, .h (.i .i64)), (14, .h (.i .i64))], [(901, .arr 3 (.i .i64) true), (900, .arr 3 (.i .i64) true)], [(.sl (.i .i64)), (.i .i64), (.i .i64), (.sl (.i .i64)), (.sl (.i .i64))]⟩
def o_ref13_Cut_2 : List (Exit × PS) := [((.exit 2), ⟨[(9, .k (.ow 900)), (10, .k (.ow 901))], [(900, .arr 3 (.i .i64) true), (901, .arr 3 (.i .i64) true)], [(.sl (.i .i64)), (.sl (.i .i64))]⟩)]
def p_ref13_Cut_2 : Pl := .z
noncomputable def l_ref13_Cut_2 (N : Nat) : Nat → (List Int) × Int × Int × (List Int) × (List Int) → Option ((List Int) × (List Int)) := loopF (exC T (ct_ref13_Cut N) N (codeAt [1, 1, 1, 1, 1, 0, 1, 0, 0] (bodyOf Try.f35))) 75 i_ref13_Cut_2 o_ref13_Cut_2 p_ref13_Cut_2
def i_ref13_Cut_1 : PS := ⟨[(0, .h (.sl (.i .i64))), (1, .h (.i .i64)), (2, .h (.i .i64)), (9, .k .nil), (10, .k (.ow 900)), (11, .h (.i .i64)), (12, .h (.i .i64))], [(900, .arr 3 (.i .i64) true)], [(.sl (.i .i64)), (.i .i64), (.i .i64), (.i .i64), (.i .i64), (.sl (.i .i64))]⟩
def o_ref13_Cut_1 : List (Exit × PS) := [((.exit 0), ⟨[(0, .h (.sl (.i .i64))), (9, .k .nil), (10, .k (.ow 900)), (11, .h (.i .i64))], [(900, .arr 3 (.i .i64) true)], [(.sl (.i .i64)), (.i .i64), (.sl (.i .i64))]⟩)]
def p_ref13_Cut_1 : Pl := .z
noncomputable def l_ref13_Cut_1 (N : Nat) : Nat → (List Int) × Int × Int × Int × Int × (List Int) → Option ((List Int) × Int × (List Int)) := loopF (exC T (ct_ref13_Cut N) N (codeAt [1, 1, 1, 1, 0, 1, 0, 0] (bodyOf Try.f35))) 75 i_ref13_Cut_1 o_ref13_Cut_1 p_ref13_Cut_1
def p_ref13_Cut : Pl := (.n .z (.n .z (.n .z (.n .z (.n (.n .z (.n (.loop i_ref13_Cut_1 o_ref13_Cut_1 p_ref13_Cut_1) .z)) (.n (.n .z (.n (.loop i_ref13_Cut_2 o_ref13_Cut_2 p_ref13_Cut_2) .z)) .z))))))
def r_ref13_Cut : PS := ⟨[(6, .k (.ow 900)), (7, .k (.ow 901)), (8, .h .b)], [(900, .arr 3 (.i .i64) true), (901, .arr 3 (.i .i64) true)], [.b, (.sl (.i .i64)), (.sl (.i .i64))]⟩
noncomputable def m_ref13_Cut (N : Nat) : (List Int) × Int × Int → Option (Bool × (List Int) × (List Int)) := exF T ct_ref13_Cut N (bodyOf Try.f35) 75 p_ref13_Cut [.h (.sl (.i .i64)), .h (.i .i64), .h (.i .i64)] [] [(.sl (.i .i64)), (.i .i64), (.i .i64)] r_ref13_Cut
noncomputable def c_ref13_Cut (N : Nat) : Ctr := ⟨35, [.h (.sl (.i .i64)), .h (.i .i64), .h (.i .i64)], [], [(.sl (.i .i64)), (.i .i64), (.i .i64)], Tup r_ref13_Cut.c, m_ref13_Cut N, fun y _ k => k (resG T (mkPS 75 r_ref13_Cut y) Try.f35.results.toList) (keepH' [900, 901] (mkPS 75 r_ref13_Cut y).h), true, true⟩
theorem l_ref13_Cut_2_z (N : Nat) (v : (List Int) × Int × Int × (List Int) × (List Int)) : l_ref13_Cut_2 N 0 v = none := by kernel_rfl
theorem l_ref13_Cut_2_s (N m : Nat) (l : (List Int)) (n : Int) (i : Int) (v9 : (List Int)) (part : (List Int)) : l_ref13_Cut_2 N (m + 1) (l, n, i, v9, part) = cond (decide (i < n))
   (obind (nthI l i) fun z1 =>
    obind (m_ref13_Place N (part, z1)) fun z2 =>
    cond (decide (z2 < (0 : Int)))
     (obind (nthI l i) fun z3 =>
      obind (appI (8 : Nat) v9 [z3]) fun z4 =>
      (l_ref13_Cut_2 N m (l, (n, ((IntKind.wrap .i64 (i + (1 : Int))), (z4, part))))))
     ((l_ref13_Cut_2 N m (l, (n, ((IntKind.wrap .i64 (i + (1 : Int))), (v9, part)))))))
   (some (v9, part)) := by kernel_rfl
theorem l_ref13_Cut_1_z (N : Nat) (v : (List Int) × Int × Int × Int × Int × (List Int)) : l_ref13_Cut_1 N 0 v = none := by kernel_rfl
theorem l_ref13_Cut_1_s (N m : Nat) (l : (List Int)) (x : Int) (y : Int) (n : Int) (i : Int) (part : (List Int)) : l_ref13_Cut_1 N (m + 1) (l, x, y, n, i, part) = cond (decide (i ≤ n))
   (obind (m_ref13_Place N (l, x)) fun z1 =>
    obind (remI (IntKind.wrap .i64 (z1 + i)) n) fun z2 =>
    obind (nthI l z2) fun z3 =>
    obind (appI (8 : Nat) part [z3]) fun z4 =>
    cond (decide (z3 = y))
     (some (l, (n, z4)))
     ((l_ref13_Cut_1 N m (l, (x, (y, (n, ((IntKind.wrap .i64 (i + (1 : Int))), z4))))))))
   (some (l, (n, part))) := by kernel_rfl
theorem m_ref13_Cut_eq (N : Nat) (l : (List Int)) (x : Int) (y : Int) : m_ref13_Cut (N + 1) (l, x, y) = obind (m_ref13_Right N l) fun z1 =>
  cond (!z1)
   (some (false, ([], [])))
   (obind (m_ref13_Place N (l, x)) fun z2 =>
    cond (decide (z2 < (0 : Int)))
     (some (false, ([], [])))
     (obind (m_ref13_Place N (l, y)) fun z3 =>
      cond (decide (z3 < (0 : Int)))
       (some (false, ([], [])))
       (obind (l_ref13_Cut_1 N N (l, (x, (y, ((((List.length l) : Nat) : Int), ((1 : Int), [])))))) fun z4 =>
        obind (l_ref13_Cut_2 N N (z4.1, (z4.2.1, ((0 : Int), ([], z4.2.2))))) fun z5 =>
        some (true, (z5.1, z5.2))))) := by kernel_rfl
theorem c_ref13_Cut_ok (N : Nat) : (c_ref13_Cut N).ok Try.prog := exF_ok (T := T) (CT := ct_ref13_Cut) (N := N) (fun M => ⟨tOk, (ctAll_cons (c_ref13_Right_ok M) (ctAll_cons (c_ref13_Place_ok M) ctAll_nil)), mixed⟩) Try.func35 (by kernel_rfl) (by kernel_rfl) p_ref13_Cut [.h (.sl (.i .i64)), .h (.i .i64), .h (.i .i64)] [] [(.sl (.i .i64)), (.i .i64), (.i .i64)] r_ref13_Cut true true [900, 901] (by kernel_rfl) (fun y => by kernel_rfl) (fun h => by cases h) (fun y => by kernel_rfl) (m_ref13_Cut N) (fun x => by kernel_rfl)
/-! archipelago/archipelagoref15.Cut -/
noncomputable def ct_ref15_Cut (N : Nat) : List Ctr := [c_ref14_Right N, c_ref13_Cut N, c_ref15_built N]
def p_ref15_Cut : Pl := .z
def r_ref15_Cut : PS := ⟨[(6, .k (.pt 900 0)), (7, .k (.pt 901 0)), (8, .h .b)], [(900, .box 25 [.h (.sl (.i .i64)), .h (.sl (.i .i64)), .h (.sl (.sl (.i .i64)))]), (901, .box 25 [.h (.sl (.i .i64)), .h (.sl (.i .i64)), .h (.sl (.sl (.i .i64)))])], [.b, (.sl (.i .i64)), (.sl (.i .i64)), (.sl (.sl (.i .i64))), (.sl (.i .i64)), (.sl (.i .i64)), (.sl (.sl (.i .i64)))]⟩
noncomputable def m_ref15_Cut (N : Nat) : (List Int) × (List Int) × (List (List Int)) × Int × Int → Option (Bool × (List Int) × (List Int) × (List (List Int)) × (List Int) × (List Int) × (List (List Int))) := exF T ct_ref15_Cut N (bodyOf Try.f14) 55 p_ref15_Cut [.ag [.h (.sl (.i .i64)), .h (.sl (.i .i64)), .h (.sl (.sl (.i .i64)))], .h (.i .i64), .h (.i .i64)] [] [(.sl (.i .i64)), (.sl (.i .i64)), (.sl (.sl (.i .i64))), (.i .i64), (.i .i64)] r_ref15_Cut
noncomputable def c_ref15_Cut (N : Nat) : Ctr := ⟨14, [.ag [.h (.sl (.i .i64)), .h (.sl (.i .i64)), .h (.sl (.sl (.i .i64)))], .h (.i .i64), .h (.i .i64)], [], [(.sl (.i .i64)), (.sl (.i .i64)), (.sl (.sl (.i .i64))), (.i .i64), (.i .i64)], Tup r_ref15_Cut.c, m_ref15_Cut N, fun y _ k => k (resG T (mkPS 55 r_ref15_Cut y) Try.f14.results.toList) (keepH' [] (mkPS 55 r_ref15_Cut y).h), false, false⟩
theorem m_ref15_Cut_eq (N : Nat) (t : (List Int)) (t2 : (List Int)) (t3 : (List (List Int))) (x : Int) (y : Int) : m_ref15_Cut (N + 1) (t, t2, t3, x, y) = obind (m_ref14_Right N (t, (t2, t3))) fun z1 =>
  cond (!z1)
   (some (false, ([], ([], ([], ([], ([], [])))))))
   (obind (m_ref13_Cut N (t, (x, y))) fun z2 =>
    cond (!z2.1)
     (some (false, ([], ([], ([], ([], ([], [])))))))
     (cond (decide ((((List.length z2.2.1) : Nat) : Int) = (0 : Int)))
       (some (false, ([], ([], ([], ([], ([], [])))))))
       (obind (m_ref15_built N (z2.2.1, (t, (t2, (t3, (t, (t2, t3))))))) fun z3 =>
        obind (m_ref15_built N (z2.2.2, (t, (t2, (t3, (t, (t2, t3))))))) fun z4 =>
        some (true, (z3.2.1, (z3.2.2.1, (z3.2.2.2, (z4.2.1, (z4.2.2.1, z4.2.2.2))))))))) := by kernel_rfl
theorem c_ref15_Cut_ok (N : Nat) : (c_ref15_Cut N).ok Try.prog := exF_ok (T := T) (CT := ct_ref15_Cut) (N := N) (fun M => ⟨tOk, (ctAll_cons (c_ref14_Right_ok M) (ctAll_cons (c_ref13_Cut_ok M) (ctAll_cons (c_ref15_built_ok M) ctAll_nil))), mixed⟩) Try.func14 (by kernel_rfl) (by kernel_rfl) p_ref15_Cut [.ag [.h (.sl (.i .i64)), .h (.sl (.i .i64)), .h (.sl (.sl (.i .i64)))], .h (.i .i64), .h (.i .i64)] [] [(.sl (.i .i64)), (.sl (.i .i64)), (.sl (.sl (.i .i64))), (.i .i64), (.i .i64)] r_ref15_Cut false false [] (by kernel_rfl) (fun y => by kernel_rfl) (fun _ => ⟨rfl, rfl⟩) (fun y => by kernel_rfl) (m_ref15_Cut N) (fun x => by kernel_rfl)
/-! archipelago/archipelagoref15.From -/
noncomputable def ct_ref15_From (N : Nat) : List Ctr := [c_ref14_Right N, c_ref13_From N, c_ref15_built N]
def p_ref15_From : Pl := .z
def r_ref15_From : PS := ⟨[(4, .k (.pt 900 0)), (5, .h .b)], [(900, .box 25 [.h (.sl (.i .i64)), .h (.sl (.i .i64)), .h (.sl (.sl (.i .i64)))])], [.b, (.sl (.i .i64)), (.sl (.i .i64)), (.sl (.sl (.i .i64)))]⟩
noncomputable def m_ref15_From (N : Nat) : (List Int) × (List Int) × (List (List Int)) × Int → Option (Bool × (List Int) × (List Int) × (List (List Int))) := exF T ct_ref15_From N (bodyOf Try.f16) 28 p_ref15_From [.ag [.h (.sl (.i .i64)), .h (.sl (.i .i64)), .h (.sl (.sl (.i .i64)))], .h (.i .i64)] [] [(.sl (.i .i64)), (.sl (.i .i64)), (.sl (.sl (.i .i64))), (.i .i64)] r_ref15_From
noncomputable def c_ref15_From (N : Nat) : Ctr := ⟨16, [.ag [.h (.sl (.i .i64)), .h (.sl (.i .i64)), .h (.sl (.sl (.i .i64)))], .h (.i .i64)], [], [(.sl (.i .i64)), (.sl (.i .i64)), (.sl (.sl (.i .i64))), (.i .i64)], Tup r_ref15_From.c, m_ref15_From N, fun y _ k => k (resG T (mkPS 28 r_ref15_From y) Try.f16.results.toList) (keepH' [] (mkPS 28 r_ref15_From y).h), false, false⟩
theorem m_ref15_From_eq (N : Nat) (t : (List Int)) (t2 : (List Int)) (t3 : (List (List Int))) (token : Int) : m_ref15_From (N + 1) (t, t2, t3, token) = obind (m_ref14_Right N (t, (t2, t3))) fun z1 =>
  cond (!z1)
   (some (false, ([], ([], []))))
   (obind (m_ref13_From N (t, token)) fun z2 =>
    cond (!z2.1)
     (some (false, ([], ([], []))))
     (obind (m_ref15_built N (z2.2, (t, (t2, (t3, (t, (t2, t3))))))) fun z3 =>
      some (z3.1, (z3.2.1, (z3.2.2.1, z3.2.2.2))))) := by kernel_rfl
theorem c_ref15_From_ok (N : Nat) : (c_ref15_From N).ok Try.prog := exF_ok (T := T) (CT := ct_ref15_From) (N := N) (fun M => ⟨tOk, (ctAll_cons (c_ref14_Right_ok M) (ctAll_cons (c_ref13_From_ok M) (ctAll_cons (c_ref15_built_ok M) ctAll_nil))), mixed⟩) Try.func16 (by kernel_rfl) (by kernel_rfl) p_ref15_From [.ag [.h (.sl (.i .i64)), .h (.sl (.i .i64)), .h (.sl (.sl (.i .i64)))], .h (.i .i64)] [] [(.sl (.i .i64)), (.sl (.i .i64)), (.sl (.sl (.i .i64))), (.i .i64)] r_ref15_From false false [] (by kernel_rfl) (fun y => by kernel_rfl) (fun _ => ⟨rfl, rfl⟩) (fun y => by kernel_rfl) (m_ref15_From N) (fun x => by kernel_rfl)
/-! archipelago/archipelagoref15.Links -/
noncomputable def ct_ref15_Links (N : Nat) : List Ctr := [c_ref14_Right N]
def i_ref15_Links_2 : PS := ⟨[(1, .k (.pt 900 0)), (3, .k (.ow 901)), (4, .h (.i .i64)), (5, .h (.i .i64))], [(900, .box 25 [.h (.sl (.i .i64)), .h (.sl (.i .i64)), .h (.sl (.sl (.i .i64)))]), (901, .arr 51 (.pr (.i .i64) (.pr (.i .i64) (.i .i64))) true)], [(.i .i64), (.i .i64), (.sl (.i .i64)), (.sl (.i .i64)), (.sl (.sl (.i .i64))), (.sl (.pr (.i .i64) (.pr (.i .i64) (.i .i64))))]⟩
def o_ref15_Links_2 : List (Exit × PS) := [((.exit 2), ⟨[(1, .k (.pt 900 0)), (3, .k (.ow 901)), (4, .h (.i .i64))], [(900, .box 25 [.h (.sl (.i .i64)), .h (.sl (.i .i64)), .h (.sl (.sl (.i .i64)))]), (901, .arr 51 (.pr (.i .i64) (.pr (.i .i64) (.i .i64))) true)], [(.i .i64), (.sl (.i .i64)), (.sl (.i .i64)), (.sl (.sl (.i .i64))), (.sl (.pr (.i .i64) (.pr (.i .i64) (.i .i64))))]⟩)]
def p_ref15_Links_2 : Pl := .z
noncomputable def l_ref15_Links_2 (N : Nat) : Nat → Int × Int × (List Int) × (List Int) × (List (List Int)) × (List (Int × (Int × Int))) → Option (Int × (List Int) × (List Int) × (List (List Int)) × (List (Int × (Int × Int)))) := loopF (exC T (ct_ref15_Links N) N (codeAt [1, 1, 1, 0, 1, 0, 0, 1, 0, 0, 1, 0, 0] (bodyOf Try.f20))) 49 i_ref15_Links_2 o_ref15_Links_2 p_ref15_Links_2
def i_ref15_Links_1 : PS := ⟨[(1, .k (.pt 900 0)), (3, .k (.ow 901)), (4, .h (.i .i64))], [(900, .box 25 [.h (.sl (.i .i64)), .h (.sl (.i .i64)), .h (.sl (.sl (.i .i64)))]), (901, .arr 51 (.pr (.i .i64) (.pr (.i .i64) (.i .i64))) true)], [(.i .i64), (.sl (.i .i64)), (.sl (.i .i64)), (.sl (.sl (.i .i64))), (.sl (.pr (.i .i64) (.pr (.i .i64) (.i .i64))))]⟩
def o_ref15_Links_1 : List (Exit × PS) := [((.exit 0), ⟨[(3, .k (.ow 900))], [(900, .arr 51 (.pr (.i .i64) (.pr (.i .i64) (.i .i64))) true)], [(.sl (.pr (.i .i64) (.pr (.i .i64) (.i .i64))))]⟩)]
def p_ref15_Links_1 : Pl := (.n .z (.n (.n (.n .z (.n (.loop i_ref15_Links_2 o_ref15_Links_2 p_ref15_Links_2) .z)) .z) .z))
noncomputable def l_ref15_Links_1 (N : Nat) : Nat → Int × (List Int) × (List Int) × (List (List Int)) × (List (Int × (Int × Int))) → Option ((List (Int × (Int × Int)))) := loopF (exC T (ct_ref15_Links N) N (codeAt [1, 1, 1, 0, 1, 0, 0] (bodyOf Try.f20))) 49 i_ref15_Links_1 o_ref15_Links_1 p_ref15_Links_1
def p_ref15_Links : Pl := (.n .z (.n .z (.n .z (.n (.n .z (.n (.loop i_ref15_Links_1 o_ref15_Links_1 p_ref15_Links_1) .z)) .z))))
def r_ref15_Links : PS := ⟨[(2, .k (.ow 900))], [(900, .arr 51 (.pr (.i .i64) (.pr (.i .i64) (.i .i64))) true)], [(.sl (.pr (.i .i64) (.pr (.i .i64) (.i .i64))))]⟩
noncomputable def m_ref15_Links (N : Nat) : (List Int) × (List Int) × (List (List Int)) → Option ((List (Int × (Int × Int)))) := exF T ct_ref15_Links N (bodyOf Try.f20) 49 p_ref15_Links [.ag [.h (.sl (.i .i64)), .h (.sl (.i .i64)), .h (.sl (.sl (.i .i64)))]] [] [(.sl (.i .i64)), (.sl (.i .i64)), (.sl (.sl (.i .i64)))] r_ref15_Links
noncomputable def c_ref15_Links (N : Nat) : Ctr := ⟨20, [.ag [.h (.sl (.i .i64)), .h (.sl (.i .i64)), .h (.sl (.sl (.i .i64)))]], [], [(.sl (.i .i64)), (.sl (.i .i64)), (.sl (.sl (.i .i64)))], Tup r_ref15_Links.c, m_ref15_Links N, fun y _ k => k (resG T (mkPS 49 r_ref15_Links y) Try.f20.results.toList) (keepH' [900] (mkPS 49 r_ref15_Links y).h), true, true⟩
theorem l_ref15_Links_2_z (N : Nat) (v : Int × Int × (List Int) × (List Int) × (List (List Int)) × (List (Int × (Int × Int)))) : l_ref15_Links_2 N 0 v = none := by kernel_rfl
theorem l_ref15_Links_2_s (N m : Nat) (i : Int) (h : Int) (t : (List Int)) (t2 : (List Int)) (t3 : (List (List Int))) (out : (List (Int × (Int × Int)))) : l_ref15_Links_2 N (m + 1) (i, h, t, t2, t3, out) = obind (nthI t3 i) fun z1 =>
  cond (decide (h < (((List.length z1) : Nat) : Int)))
   (obind (nthI t i) fun z2 =>
    obind (nthI t3 i) fun z3 =>
    obind (nthI z3 h) fun z4 =>
    obind (nthI t z4) fun z5 =>
    obind (appI (24 : Nat) out [(z2, (h, z5))]) fun z6 =>
    (l_ref15_Links_2 N m (i, ((IntKind.wrap .i64 (h + (1 : Int))), (t, (t2, (t3, z6)))))))
   (some (i, (t, (t2, (t3, out))))) := by kernel_rfl
theorem l_ref15_Links_1_z (N : Nat) (v : Int × (List Int) × (List Int) × (List (List Int)) × (List (Int × (Int × Int)))) : l_ref15_Links_1 N 0 v = none := by kernel_rfl
theorem l_ref15_Links_1_s (N m : Nat) (i : Int) (t : (List Int)) (t2 : (List Int)) (t3 : (List (List Int))) (out : (List (Int × (Int × Int)))) : l_ref15_Links_1 N (m + 1) (i, t, t2, t3, out) = cond (decide (i < (((List.length t3) : Nat) : Int)))
   (obind (l_ref15_Links_2 N N (i, ((0 : Int), (t, (t2, (t3, out)))))) fun z1 =>
    (l_ref15_Links_1 N m ((IntKind.wrap .i64 (z1.1 + (1 : Int))), (z1.2.1, (z1.2.2.1, (z1.2.2.2.1, z1.2.2.2.2))))))
   (some out) := by kernel_rfl
theorem m_ref15_Links_eq (N : Nat) (t : (List Int)) (t2 : (List Int)) (t3 : (List (List Int))) : m_ref15_Links (N + 1) (t, t2, t3) = obind (m_ref14_Right N (t, (t2, t3))) fun z1 =>
  cond (!z1)
   (some [])
   (obind (l_ref15_Links_1 N N ((0 : Int), (t, (t2, (t3, []))))) fun z2 =>
    some z2) := by kernel_rfl
theorem c_ref15_Links_ok (N : Nat) : (c_ref15_Links N).ok Try.prog := exF_ok (T := T) (CT := ct_ref15_Links) (N := N) (fun M => ⟨tOk, (ctAll_cons (c_ref14_Right_ok M) ctAll_nil), mixed⟩) Try.func20 (by kernel_rfl) (by kernel_rfl) p_ref15_Links [.ag [.h (.sl (.i .i64)), .h (.sl (.i .i64)), .h (.sl (.sl (.i .i64)))]] [] [(.sl (.i .i64)), (.sl (.i .i64)), (.sl (.sl (.i .i64)))] r_ref15_Links true true [900] (by kernel_rfl) (fun y => by kernel_rfl) (fun h => by cases h) (fun y => by kernel_rfl) (m_ref15_Links N) (fun x => by kernel_rfl)
/-! archipelago/archipelagoref15.Same -/
noncomputable def ct_ref15_Same (N : Nat) : List Ctr := []
def i_ref15_Same_1 : PS := ⟨[(0, .h (.sl (.pr (.i .i64) (.pr (.i .i64) (.i .i64))))), (1, .h (.sl (.pr (.i .i64) (.pr (.i .i64) (.i .i64))))), (5, .h (.i .i64))], [], [(.sl (.pr (.i .i64) (.pr (.i .i64) (.i .i64)))), (.sl (.pr (.i .i64) (.pr (.i .i64) (.i .i64)))), (.i .i64)]⟩
def o_ref15_Same_1 : List (Exit × PS) := [((.exit 0), ⟨[], [], []⟩), (.ret, ⟨[(4, .h .b)], [], [.b]⟩)]
def p_ref15_Same_1 : Pl := .z
noncomputable def l_ref15_Same_1 (N : Nat) : Nat → (List (Int × (Int × Int))) × (List (Int × (Int × Int))) × Int → Option ((Unit) ⊕ (Bool)) := loopF (exC T (ct_ref15_Same N) N (codeAt [1, 1, 0, 1, 0, 0] (bodyOf Try.f18))) 26 i_ref15_Same_1 o_ref15_Same_1 p_ref15_Same_1
def p_ref15_Same : Pl := (.n .z (.n .z (.n (.n .z (.n (.loop i_ref15_Same_1 o_ref15_Same_1 p_ref15_Same_1) .z)) .z)))
def r_ref15_Same : PS := ⟨[(4, .h .b)], [], [.b]⟩
noncomputable def m_ref15_Same (N : Nat) : (List (Int × (Int × Int))) × (List (Int × (Int × Int))) → Option (Bool) := exF T ct_ref15_Same N (bodyOf Try.f18) 26 p_ref15_Same [.h (.sl (.pr (.i .i64) (.pr (.i .i64) (.i .i64)))), .h (.sl (.pr (.i .i64) (.pr (.i .i64) (.i .i64))))] [] [(.sl (.pr (.i .i64) (.pr (.i .i64) (.i .i64)))), (.sl (.pr (.i .i64) (.pr (.i .i64) (.i .i64))))] r_ref15_Same
noncomputable def c_ref15_Same (N : Nat) : Ctr := ⟨18, [.h (.sl (.pr (.i .i64) (.pr (.i .i64) (.i .i64)))), .h (.sl (.pr (.i .i64) (.pr (.i .i64) (.i .i64))))], [], [(.sl (.pr (.i .i64) (.pr (.i .i64) (.i .i64)))), (.sl (.pr (.i .i64) (.pr (.i .i64) (.i .i64))))], Tup r_ref15_Same.c, m_ref15_Same N, fun y _ k => k (resG T (mkPS 26 r_ref15_Same y) Try.f18.results.toList) (keepH' [] (mkPS 26 r_ref15_Same y).h), false, true⟩
theorem l_ref15_Same_1_z (N : Nat) (v : (List (Int × (Int × Int))) × (List (Int × (Int × Int))) × Int) : l_ref15_Same_1 N 0 v = none := by kernel_rfl
theorem l_ref15_Same_1_s (N m : Nat) (a : (List (Int × (Int × Int)))) (b : (List (Int × (Int × Int)))) (i : Int) : l_ref15_Same_1 N (m + 1) (a, b, i) = cond (decide (i < (((List.length a) : Nat) : Int)))
   (obind (nthI a i) fun z1 =>
    obind (nthI b i) fun z2 =>
    cond (!((decide (z1.1 = z2.1)) && ((decide (z1.2.1 = z2.2.1)) && (decide (z1.2.2 = z2.2.2)))))
     (some (.inr false))
     ((l_ref15_Same_1 N m (a, (b, (IntKind.wrap .i64 (i + (1 : Int))))))))
   (some (.inl ())) := by kernel_rfl
theorem m_ref15_Same_eq (N : Nat) (a : (List (Int × (Int × Int)))) (b : (List (Int × (Int × Int)))) : m_ref15_Same (N + 1) (a, b) = cond (!(decide ((((List.length a) : Nat) : Int) = (((List.length b) : Nat) : Int))))
   (some false)
   (obind (l_ref15_Same_1 N N (a, (b, (0 : Int)))) fun z1 =>
    (match z1 with
    | .inl zy2 => some true
    | .inr zy3 => some zy3)) := by kernel_rfl
theorem c_ref15_Same_ok (N : Nat) : (c_ref15_Same N).ok Try.prog := exF_ok (T := T) (CT := ct_ref15_Same) (N := N) (fun M => ⟨tOk, ctAll_nil, mixed⟩) Try.func18 (by kernel_rfl) (by kernel_rfl) p_ref15_Same [.h (.sl (.pr (.i .i64) (.pr (.i .i64) (.i .i64)))), .h (.sl (.pr (.i .i64) (.pr (.i .i64) (.i .i64))))] [] [(.sl (.pr (.i .i64) (.pr (.i .i64) (.i .i64)))), (.sl (.pr (.i .i64) (.pr (.i .i64) (.i .i64))))] r_ref15_Same false true [] (by kernel_rfl) (fun y => by kernel_rfl) (fun _ => ⟨rfl, rfl⟩) (fun y => by kernel_rfl) (m_ref15_Same N) (fun x => by kernel_rfl)
/-! archipelago/archipelagolaw15.SpliceAnswers -/
noncomputable def ct_law15_SpliceAnswers (N : Nat) : List Ctr := [c_law15_alive N, c_ref14_Great N, c_splice_Join N, c_ref15_Join N, c_splice_Cut N, c_ref15_Cut N, c_splice_From N, c_ref15_From N, c_ref14_Same N, c_splice_Links N, c_ref15_Links N, c_ref15_Same N, c_splice_Height N, c_ref15_Height N]
def p_law15_SpliceAnswers : Pl := .z
def r_law15_SpliceAnswers : PS := ⟨[(6, .h .b)], [], [.b]⟩
noncomputable def m_law15_SpliceAnswers (N : Nat) : (List Int) × (List Int) × (List (List Int)) × (List Int) × (List Int) × (List (List Int)) × Int × Int → Option (Bool) := exF T ct_law15_SpliceAnswers N (bodyOf Try.f3) 128 p_law15_SpliceAnswers [.ag [.h (.sl (.i .i64)), .h (.sl (.i .i64)), .h (.sl (.sl (.i .i64)))], .ag [.h (.sl (.i .i64)), .h (.sl (.i .i64)), .h (.sl (.sl (.i .i64)))], .ag [.h (.i .i64), .h (.i .i64)]] [] [(.sl (.i .i64)), (.sl (.i .i64)), (.sl (.sl (.i .i64))), (.sl (.i .i64)), (.sl (.i .i64)), (.sl (.sl (.i .i64))), (.i .i64), (.i .i64)] r_law15_SpliceAnswers
noncomputable def c_law15_SpliceAnswers (N : Nat) : Ctr := ⟨3, [.ag [.h (.sl (.i .i64)), .h (.sl (.i .i64)), .h (.sl (.sl (.i .i64)))], .ag [.h (.sl (.i .i64)), .h (.sl (.i .i64)), .h (.sl (.sl (.i .i64)))], .ag [.h (.i .i64), .h (.i .i64)]], [], [(.sl (.i .i64)), (.sl (.i .i64)), (.sl (.sl (.i .i64))), (.sl (.i .i64)), (.sl (.i .i64)), (.sl (.sl (.i .i64))), (.i .i64), (.i .i64)], Tup r_law15_SpliceAnswers.c, m_law15_SpliceAnswers N, fun y _ k => k (resG T (mkPS 128 r_law15_SpliceAnswers y) Try.f3.results.toList) (keepH' [] (mkPS 128 r_law15_SpliceAnswers y).h), false, true⟩
theorem m_law15_SpliceAnswers_eq (N : Nat) (a : (List Int)) (a2 : (List Int)) (a3 : (List (List Int))) (b : (List Int)) (b2 : (List Int)) (b3 : (List (List Int))) (two : Int) (two2 : Int) : m_law15_SpliceAnswers (N + 1) (a, a2, a3, b, b2, b3, two, two2) = obind (m_law15_alive N ()) fun z1 =>
  cond (!z1)
   (some false)
   (obind (m_ref14_Great N (a, (a2, (a3, (150 : Int))))) fun z2 =>
    cond z2
     (some true)
     (obind (m_ref14_Great N (b, (b2, (b3, (150 : Int))))) fun z3 =>
      cond z3
       (some true)
       (obind (m_splice_Join N (a, (a2, (a3, (two, (b, (b2, (b3, two2)))))))) fun z4 =>
        obind (m_ref15_Join N (a, (a2, (a3, (two, (b, (b2, (b3, two2)))))))) fun z5 =>
        obind (m_splice_Cut N (a, (a2, (a3, (two, two2))))) fun z6 =>
        obind (m_ref15_Cut N (a, (a2, (a3, (two, two2))))) fun z7 =>
        obind (m_splice_From N (a, (a2, (a3, two)))) fun z8 =>
        obind (m_ref15_From N (a, (a2, (a3, two)))) fun z9 =>
        obind (m_ref14_Same N (z4.2.1, (z4.2.2.1, (z4.2.2.2, (z5.2.1, (z5.2.2.1, z5.2.2.2)))))) fun z10 =>
        cond z10
         (cond (z4.1 == z5.1)
           (obind (m_ref14_Same N (z6.2.1, (z6.2.2.1, (z6.2.2.2.1, (z7.2.1, (z7.2.2.1, z7.2.2.2.1)))))) fun z11 =>
            cond z11
             (obind (m_ref14_Same N (z6.2.2.2.2.1, (z6.2.2.2.2.2.1, (z6.2.2.2.2.2.2, (z7.2.2.2.2.1, (z7.2.2.2.2.2.1, z7.2.2.2.2.2.2)))))) fun z12 =>
              cond z12
               (cond (z6.1 == z7.1)
                 (obind (m_ref14_Same N (z8.2.1, (z8.2.2.1, (z8.2.2.2, (z9.2.1, (z9.2.2.1, z9.2.2.2)))))) fun z13 =>
                  cond z13
                   (cond (z8.1 == z9.1)
                     (obind (m_splice_Links N (a, (a2, a3))) fun z14 =>
                      obind (m_ref15_Links N (a, (a2, a3))) fun z15 =>
                      obind (m_ref15_Same N (z14, z15)) fun z16 =>
                      cond z16
                       (obind (m_splice_Height N (a, (a2, (a3, two)))) fun z17 =>
                        obind (m_ref15_Height N (a, (a2, (a3, two)))) fun z18 =>
                        some (decide (z17 = z18)))
                       (some false))
                     (some false))
                   (some false))
                 (some false))
               (some false))
             (some false))
           (some false))
         (some false)))) := by kernel_rfl
theorem c_law15_SpliceAnswers_ok (N : Nat) : (c_law15_SpliceAnswers N).ok Try.prog := exF_ok (T := T) (CT := ct_law15_SpliceAnswers) (N := N) (fun M => ⟨tOk, (ctAll_cons (c_law15_alive_ok M) (ctAll_cons (c_ref14_Great_ok M) (ctAll_cons (c_splice_Join_ok M) (ctAll_cons (c_ref15_Join_ok M) (ctAll_cons (c_splice_Cut_ok M) (ctAll_cons (c_ref15_Cut_ok M) (ctAll_cons (c_splice_From_ok M) (ctAll_cons (c_ref15_From_ok M) (ctAll_cons (c_ref14_Same_ok M) (ctAll_cons (c_splice_Links_ok M) (ctAll_cons (c_ref15_Links_ok M) (ctAll_cons (c_ref15_Same_ok M) (ctAll_cons (c_splice_Height_ok M) (ctAll_cons (c_ref15_Height_ok M) ctAll_nil)))))))))))))), mixed⟩) Try.func3 (by kernel_rfl) (by kernel_rfl) p_law15_SpliceAnswers [.ag [.h (.sl (.i .i64)), .h (.sl (.i .i64)), .h (.sl (.sl (.i .i64)))], .ag [.h (.sl (.i .i64)), .h (.sl (.i .i64)), .h (.sl (.sl (.i .i64)))], .ag [.h (.i .i64), .h (.i .i64)]] [] [(.sl (.i .i64)), (.sl (.i .i64)), (.sl (.sl (.i .i64))), (.sl (.i .i64)), (.sl (.i .i64)), (.sl (.sl (.i .i64))), (.i .i64), (.i .i64)] r_law15_SpliceAnswers false true [] (by kernel_rfl) (fun y => by kernel_rfl) (fun _ => ⟨rfl, rfl⟩) (fun y => by kernel_rfl) (m_law15_SpliceAnswers N) (fun x => by kernel_rfl)
/-! archipelago/archipelagoref15.last -/
noncomputable def ct_ref15_last (N : Nat) : List Ctr := []
def i_ref15_last_1 : PS := ⟨[(0, .h (.sl (.pr (.i .i64) (.pr (.i .i64) (.i .i64))))), (1, .h (.i .i64)), (2, .h (.i .i64)), (8, .h (.i .i64)), (9, .h .b), (10, .h (.i .i64))], [], [(.sl (.pr (.i .i64) (.pr (.i .i64) (.i .i64)))), (.i .i64), (.i .i64), (.i .i64), .b, (.i .i64)]⟩
def o_ref15_last_1 : List (Exit × PS) := [((.exit 0), ⟨[(8, .h (.i .i64)), (9, .h .b)], [], [(.i .i64), .b]⟩)]
def p_ref15_last_1 : Pl := .z
noncomputable def l_ref15_last_1 (N : Nat) : Nat → (List (Int × (Int × Int))) × Int × Int × Int × Bool × Int → Option (Int × Bool) := loopF (exC T (ct_ref15_last N) N (codeAt [1, 1, 0, 1, 0, 0] (bodyOf Try.f42))) 40 i_ref15_last_1 o_ref15_last_1 p_ref15_last_1
def p_ref15_last : Pl := (.n .z (.n .z (.n (.n .z (.n (.loop i_ref15_last_1 o_ref15_last_1 p_ref15_last_1) .z)) .z)))
def r_ref15_last : PS := ⟨[(6, .h (.i .i64)), (7, .h .b)], [], [(.i .i64), .b]⟩
noncomputable def m_ref15_last (N : Nat) : (List (Int × (Int × Int))) × Int × Int → Option (Int × Bool) := exF T ct_ref15_last N (bodyOf Try.f42) 40 p_ref15_last [.h (.sl (.pr (.i .i64) (.pr (.i .i64) (.i .i64)))), .h (.i .i64), .h (.i .i64)] [] [(.sl (.pr (.i .i64) (.pr (.i .i64) (.i .i64)))), (.i .i64), (.i .i64)] r_ref15_last
noncomputable def c_ref15_last (N : Nat) : Ctr := ⟨42, [.h (.sl (.pr (.i .i64) (.pr (.i .i64) (.i .i64)))), .h (.i .i64), .h (.i .i64)], [], [(.sl (.pr (.i .i64) (.pr (.i .i64) (.i .i64)))), (.i .i64), (.i .i64)], Tup r_ref15_last.c, m_ref15_last N, fun y _ k => k (resG T (mkPS 40 r_ref15_last y) Try.f42.results.toList) (keepH' [] (mkPS 40 r_ref15_last y).h), false, true⟩
theorem l_ref15_last_1_z (N : Nat) (v : (List (Int × (Int × Int))) × Int × Int × Int × Bool × Int) : l_ref15_last_1 N 0 v = none := by kernel_rfl
theorem l_ref15_last_1_s (N m : Nat) (l : (List (Int × (Int × Int)))) (token : Int) (level : Int) (to : Int) (ok : Bool) (i : Int) : l_ref15_last_1 N (m + 1) (l, token, level, to, ok, i) = cond (decide (i < (((List.length l) : Nat) : Int)))
   (obind (nthI l i) fun z1 =>
    cond (decide (z1.1 = token))
     (obind (nthI l i) fun z2 =>
      cond (decide (z2.2.1 = level))
       (obind (nthI l i) fun z3 =>
        (l_ref15_last_1 N m (l, (token, (level, (z3.2.2, (true, (IntKind.wrap .i64 (i + (1 : Int))))))))))
       ((l_ref15_last_1 N m (l, (token, (level, (to, (ok, (IntKind.wrap .i64 (i + (1 : Int)))))))))))
     ((l_ref15_last_1 N m (l, (token, (level, (to, (ok, (IntKind.wrap .i64 (i + (1 : Int)))))))))))
   (some (to, ok)) := by kernel_rfl
theorem m_ref15_last_eq (N : Nat) (l : (List (Int × (Int × Int)))) (token : Int) (level : Int) : m_ref15_last (N + 1) (l, token, level) = obind (l_ref15_last_1 N N (l, (token, (level, ((0 : Int), (false, (0 : Int))))))) fun z1 =>
  some (z1.1, z1.2) := by kernel_rfl
theorem c_ref15_last_ok (N : Nat) : (c_ref15_last N).ok Try.prog := exF_ok (T := T) (CT := ct_ref15_last) (N := N) (fun M => ⟨tOk, ctAll_nil, mixed⟩) Try.func42 (by kernel_rfl) (by kernel_rfl) p_ref15_last [.h (.sl (.pr (.i .i64) (.pr (.i .i64) (.i .i64)))), .h (.i .i64), .h (.i .i64)] [] [(.sl (.pr (.i .i64) (.pr (.i .i64) (.i .i64)))), (.i .i64), (.i .i64)] r_ref15_last false true [] (by kernel_rfl) (fun y => by kernel_rfl) (fun _ => ⟨rfl, rfl⟩) (fun y => by kernel_rfl) (m_ref15_last N) (fun x => by kernel_rfl)
/-! archipelago/archipelagoref15.Changed -/
noncomputable def ct_ref15_Changed (N : Nat) : List Ctr := [c_ref15_last N]
def i_ref15_Changed_2 : PS := ⟨[(0, .h (.sl (.pr (.i .i64) (.pr (.i .i64) (.i .i64))))), (1, .h (.sl (.pr (.i .i64) (.pr (.i .i64) (.i .i64))))), (5, .h (.i .i64)), (13, .h (.i .i64))], [], [(.sl (.pr (.i .i64) (.pr (.i .i64) (.i .i64)))), (.sl (.pr (.i .i64) (.pr (.i .i64) (.i .i64)))), (.i .i64), (.i .i64)]⟩
def o_ref15_Changed_2 : List (Exit × PS) := [((.exit 2), ⟨[(5, .h (.i .i64))], [], [(.i .i64)]⟩)]
def p_ref15_Changed_2 : Pl := .z
noncomputable def l_ref15_Changed_2 (N : Nat) : Nat → (List (Int × (Int × Int))) × (List (Int × (Int × Int))) × Int × Int → Option (Int) := loopF (exC T (ct_ref15_Changed N) N (codeAt [1, 1, 1, 0, 1, 0, 0] (bodyOf Try.f24))) 131 i_ref15_Changed_2 o_ref15_Changed_2 p_ref15_Changed_2
def i_ref15_Changed_1 : PS := ⟨[(0, .h (.sl (.pr (.i .i64) (.pr (.i .i64) (.i .i64))))), (1, .h (.sl (.pr (.i .i64) (.pr (.i .i64) (.i .i64))))), (5, .h (.i .i64)), (6, .h (.i .i64))], [], [(.sl (.pr (.i .i64) (.pr (.i .i64) (.i .i64)))), (.sl (.pr (.i .i64) (.pr (.i .i64) (.i .i64)))), (.i .i64), (.i .i64)]⟩
def o_ref15_Changed_1 : List (Exit × PS) := [((.exit 0), ⟨[(0, .h (.sl (.pr (.i .i64) (.pr (.i .i64) (.i .i64))))), (1, .h (.sl (.pr (.i .i64) (.pr (.i .i64) (.i .i64))))), (5, .h (.i .i64))], [], [(.sl (.pr (.i .i64) (.pr (.i .i64) (.i .i64)))), (.sl (.pr (.i .i64) (.pr (.i .i64) (.i .i64)))), (.i .i64)]⟩)]
def p_ref15_Changed_1 : Pl := .z
noncomputable def l_ref15_Changed_1 (N : Nat) : Nat → (List (Int × (Int × Int))) × (List (Int × (Int × Int))) × Int × Int → Option ((List (Int × (Int × Int))) × (List (Int × (Int × Int))) × Int) := loopF (exC T (ct_ref15_Changed N) N (codeAt [1, 1, 0, 1, 0, 0] (bodyOf Try.f24))) 131 i_ref15_Changed_1 o_ref15_Changed_1 p_ref15_Changed_1
def p_ref15_Changed : Pl := (.n .z (.n .z (.n (.n .z (.n (.loop i_ref15_Changed_1 o_ref15_Changed_1 p_ref15_Changed_1) .z)) (.n (.n .z (.n (.loop i_ref15_Changed_2 o_ref15_Changed_2 p_ref15_Changed_2) .z)) .z))))
def r_ref15_Changed : PS := ⟨[(4, .h (.i .i64))], [], [(.i .i64)]⟩
noncomputable def m_ref15_Changed (N : Nat) : (List (Int × (Int × Int))) × (List (Int × (Int × Int))) → Option (Int) := exF T ct_ref15_Changed N (bodyOf Try.f24) 131 p_ref15_Changed [.h (.sl (.pr (.i .i64) (.pr (.i .i64) (.i .i64)))), .h (.sl (.pr (.i .i64) (.pr (.i .i64) (.i .i64))))] [] [(.sl (.pr (.i .i64) (.pr (.i .i64) (.i .i64)))), (.sl (.pr (.i .i64) (.pr (.i .i64) (.i .i64))))] r_ref15_Changed
noncomputable def c_ref15_Changed (N : Nat) : Ctr := ⟨24, [.h (.sl (.pr (.i .i64) (.pr (.i .i64) (.i .i64)))), .h (.sl (.pr (.i .i64) (.pr (.i .i64) (.i .i64))))], [], [(.sl (.pr (.i .i64) (.pr (.i .i64) (.i .i64)))), (.sl (.pr (.i .i64) (.pr (.i .i64) (.i .i64))))], Tup r_ref15_Changed.c, m_ref15_Changed N, fun y _ k => k (resG T (mkPS 131 r_ref15_Changed y) Try.f24.results.toList) (keepH' [] (mkPS 131 r_ref15_Changed y).h), false, true⟩
theorem l_ref15_Changed_2_z (N : Nat) (v : (List (Int × (Int × Int))) × (List (Int × (Int × Int))) × Int × Int) : l_ref15_Changed_2 N 0 v = none := by kernel_rfl
theorem l_ref15_Changed_2_s (N m : Nat) (a : (List (Int × (Int × Int)))) (b : (List (Int × (Int × Int)))) (n : Int) (i : Int) : l_ref15_Changed_2 N (m + 1) (a, b, n, i) = cond (decide (i < (((List.length b) : Nat) : Int)))
   (obind (subI b (0 : Int) i) fun z1 =>
    obind (nthI b i) fun z2 =>
    obind (nthI b i) fun z3 =>
    obind (m_ref15_last N (z1, (z2.1, z3.2.1))) fun z4 =>
    obind (nthI b i) fun z5 =>
    obind (nthI b i) fun z6 =>
    obind (m_ref15_last N (a, (z5.1, z6.2.1))) fun z7 =>
    cond (!z4.2)
     (cond (!z7.2)
       ((l_ref15_Changed_2 N m (a, (b, ((IntKind.wrap .i64 (n + (1 : Int))), (IntKind.wrap .i64 (i + (1 : Int))))))))
       ((l_ref15_Changed_2 N m (a, (b, (n, (IntKind.wrap .i64 (i + (1 : Int)))))))))
     ((l_ref15_Changed_2 N m (a, (b, (n, (IntKind.wrap .i64 (i + (1 : Int)))))))))
   (some n) := by kernel_rfl
theorem l_ref15_Changed_1_z (N : Nat) (v : (List (Int × (Int × Int))) × (List (Int × (Int × Int))) × Int × Int) : l_ref15_Changed_1 N 0 v = none := by kernel_rfl
theorem l_ref15_Changed_1_s (N m : Nat) (a : (List (Int × (Int × Int)))) (b : (List (Int × (Int × Int)))) (n : Int) (i : Int) : l_ref15_Changed_1 N (m + 1) (a, b, n, i) = cond (decide (i < (((List.length a) : Nat) : Int)))
   (obind (subI a (0 : Int) i) fun z1 =>
    obind (nthI a i) fun z2 =>
    obind (nthI a i) fun z3 =>
    obind (m_ref15_last N (z1, (z2.1, z3.2.1))) fun z4 =>
    obind (nthI a i) fun z5 =>
    obind (nthI a i) fun z6 =>
    obind (m_ref15_last N (a, (z5.1, z6.2.1))) fun z7 =>
    obind (nthI a i) fun z8 =>
    obind (nthI a i) fun z9 =>
    obind (m_ref15_last N (b, (z8.1, z9.2.1))) fun z10 =>
    cond (!z4.2)
     (cond (!z10.2)
       ((l_ref15_Changed_1 N m (a, (b, ((IntKind.wrap .i64 (n + (1 : Int))), (IntKind.wrap .i64 (i + (1 : Int))))))))
       (cond (!(decide (z7.1 = z10.1)))
         ((l_ref15_Changed_1 N m (a, (b, ((IntKind.wrap .i64 (n + (1 : Int))), (IntKind.wrap .i64 (i + (1 : Int))))))))
         ((l_ref15_Changed_1 N m (a, (b, (n, (IntKind.wrap .i64 (i + (1 : Int))))))))))
     ((l_ref15_Changed_1 N m (a, (b, (n, (IntKind.wrap .i64 (i + (1 : Int)))))))))
   (some (a, (b, n))) := by kernel_rfl
theorem m_ref15_Changed_eq (N : Nat) (a : (List (Int × (Int × Int)))) (b : (List (Int × (Int × Int)))) : m_ref15_Changed (N + 1) (a, b) = obind (l_ref15_Changed_1 N N (a, (b, ((0 : Int), (0 : Int))))) fun z1 =>
  obind (l_ref15_Changed_2 N N (z1.1, (z1.2.1, (z1.2.2, (0 : Int))))) fun z2 =>
  some z2 := by kernel_rfl
theorem c_ref15_Changed_ok (N : Nat) : (c_ref15_Changed N).ok Try.prog := exF_ok (T := T) (CT := ct_ref15_Changed) (N := N) (fun M => ⟨tOk, (ctAll_cons (c_ref15_last_ok M) ctAll_nil), mixed⟩) Try.func24 (by kernel_rfl) (by kernel_rfl) p_ref15_Changed [.h (.sl (.pr (.i .i64) (.pr (.i .i64) (.i .i64)))), .h (.sl (.pr (.i .i64) (.pr (.i .i64) (.i .i64))))] [] [(.sl (.pr (.i .i64) (.pr (.i .i64) (.i .i64)))), (.sl (.pr (.i .i64) (.pr (.i .i64) (.i .i64))))] r_ref15_Changed false true [] (by kernel_rfl) (fun y => by kernel_rfl) (fun _ => ⟨rfl, rfl⟩) (fun y => by kernel_rfl) (m_ref15_Changed N) (fun x => by kernel_rfl)
/-! archipelago/archipelagolaw15.SpliceChanged -/
noncomputable def ct_law15_SpliceChanged (N : Nat) : List Ctr := [c_law15_alive N, c_splice_Changed N, c_ref15_Changed N]
def p_law15_SpliceChanged : Pl := .z
def r_law15_SpliceChanged : PS := ⟨[(4, .h .b)], [], [.b]⟩
noncomputable def m_law15_SpliceChanged (N : Nat) : (List (Int × (Int × Int))) × (List (Int × (Int × Int))) → Option (Bool) := exF T ct_law15_SpliceChanged N (bodyOf Try.f4) 46 p_law15_SpliceChanged [.h (.sl (.pr (.i .i64) (.pr (.i .i64) (.i .i64)))), .h (.sl (.pr (.i .i64) (.pr (.i .i64) (.i .i64))))] [] [(.sl (.pr (.i .i64) (.pr (.i .i64) (.i .i64)))), (.sl (.pr (.i .i64) (.pr (.i .i64) (.i .i64))))] r_law15_SpliceChanged
noncomputable def c_law15_SpliceChanged (N : Nat) : Ctr := ⟨4, [.h (.sl (.pr (.i .i64) (.pr (.i .i64) (.i .i64)))), .h (.sl (.pr (.i .i64) (.pr (.i .i64) (.i .i64))))], [], [(.sl (.pr (.i .i64) (.pr (.i .i64) (.i .i64)))), (.sl (.pr (.i .i64) (.pr (.i .i64) (.i .i64))))], Tup r_law15_SpliceChanged.c, m_law15_SpliceChanged N, fun y _ k => k (resG T (mkPS 46 r_law15_SpliceChanged y) Try.f4.results.toList) (keepH' [] (mkPS 46 r_law15_SpliceChanged y).h), false, true⟩
theorem m_law15_SpliceChanged_eq (N : Nat) (a : (List (Int × (Int × Int)))) (b : (List (Int × (Int × Int)))) : m_law15_SpliceChanged (N + 1) (a, b) = obind (m_law15_alive N ()) fun z1 =>
  cond (!z1)
   (some false)
   (cond (decide ((60 : Int) < (((List.length a) : Nat) : Int)))
     (some true)
     (cond (decide ((60 : Int) < (((List.length b) : Nat) : Int)))
       (some true)
       (obind (m_splice_Changed N (a, b)) fun z2 =>
        obind (m_ref15_Changed N (a, b)) fun z3 =>
        cond (decide (z2 = z3))
         (obind (m_splice_Changed N (b, a)) fun z4 =>
          cond (decide (z2 = z4))
           (obind (m_splice_Changed N (a, a)) fun z5 =>
            cond (decide (z5 = (0 : Int)))
             (some (decide (z2 ≤ (IntKind.wrap .i64 ((((List.length a) : Nat) : Int) + (((List.length b) : Nat) : Int))))))
             (some false))
           (some false))
         (some false)))) := by kernel_rfl
theorem c_law15_SpliceChanged_ok (N : Nat) : (c_law15_SpliceChanged N).ok Try.prog := exF_ok (T := T) (CT := ct_law15_SpliceChanged) (N := N) (fun M => ⟨tOk, (ctAll_cons (c_law15_alive_ok M) (ctAll_cons (c_splice_Changed_ok M) (ctAll_cons (c_ref15_Changed_ok M) ctAll_nil))), mixed⟩) Try.func4 (by kernel_rfl) (by kernel_rfl) p_law15_SpliceChanged [.h (.sl (.pr (.i .i64) (.pr (.i .i64) (.i .i64)))), .h (.sl (.pr (.i .i64) (.pr (.i .i64) (.i .i64))))] [] [(.sl (.pr (.i .i64) (.pr (.i .i64) (.i .i64)))), (.sl (.pr (.i .i64) (.pr (.i .i64) (.i .i64))))] r_law15_SpliceChanged false true [] (by kernel_rfl) (fun y => by kernel_rfl) (fun _ => ⟨rfl, rfl⟩) (fun y => by kernel_rfl) (m_law15_SpliceChanged N) (fun x => by kernel_rfl)
/-! archipelago/archipelagolaw15.SpliceBack -/
noncomputable def ct_law15_SpliceBack (N : Nat) : List Ctr := [c_law15_alive N, c_ref14_Great N, c_ref14_Right N, c_splice_Cut N, c_splice_Join N, c_splice_From N, c_ref14_Same N, c_splice_Links N, c_splice_Changed N]
def p_law15_SpliceBack : Pl := .z
def r_law15_SpliceBack : PS := ⟨[(4, .h .b)], [], [.b]⟩
noncomputable def m_law15_SpliceBack (N : Nat) : (List Int) × (List Int) × (List (List Int)) × Int × Int → Option (Bool) := exF T ct_law15_SpliceBack N (bodyOf Try.f5) 125 p_law15_SpliceBack [.ag [.h (.sl (.i .i64)), .h (.sl (.i .i64)), .h (.sl (.sl (.i .i64)))], .ag [.h (.i .u8), .h (.i .u8)]] [] [(.sl (.i .i64)), (.sl (.i .i64)), (.sl (.sl (.i .i64))), (.i .u8), (.i .u8)] r_law15_SpliceBack
noncomputable def c_law15_SpliceBack (N : Nat) : Ctr := ⟨5, [.ag [.h (.sl (.i .i64)), .h (.sl (.i .i64)), .h (.sl (.sl (.i .i64)))], .ag [.h (.i .u8), .h (.i .u8)]], [], [(.sl (.i .i64)), (.sl (.i .i64)), (.sl (.sl (.i .i64))), (.i .u8), (.i .u8)], Tup r_law15_SpliceBack.c, m_law15_SpliceBack N, fun y _ k => k (resG T (mkPS 125 r_law15_SpliceBack y) Try.f5.results.toList) (keepH' [] (mkPS 125 r_law15_SpliceBack y).h), false, true⟩
theorem m_law15_SpliceBack_eq (N : Nat) (t : (List Int)) (t2 : (List Int)) (t3 : (List (List Int))) (two : Int) (two2 : Int) : m_law15_SpliceBack (N + 1) (t, t2, t3, two, two2) = obind (m_law15_alive N ()) fun z1 =>
  cond (!z1)
   (some false)
   (obind (m_ref14_Great N (t, (t2, (t3, (200 : Int))))) fun z2 =>
    cond z2
     (some true)
     (obind (m_ref14_Right N (t, (t2, t3))) fun z3 =>
      cond (!z3)
       (some true)
       (obind (remI (IntKind.wrap .i64 two) (((List.length t) : Nat) : Int)) fun z4 =>
        obind (nthI t z4) fun z5 =>
        obind (remI (IntKind.wrap .i64 two2) (((List.length t) : Nat) : Int)) fun z6 =>
        obind (nthI t z6) fun z7 =>
        obind (m_splice_Cut N (t, (t2, (t3, (z5, z7))))) fun z8 =>
        cond (!z8.1)
         (cond (decide (z5 = z7))
           (some (decide ((IntKind.wrap .i64 ((((List.length z8.2.1) : Nat) : Int) + (((List.length z8.2.2.2.2.1) : Nat) : Int))) = (0 : Int))))
           (some false))
         (cond (decide ((((List.length z8.2.2.2.2.1) : Nat) : Int) = (0 : Int)))
           (some false)
           (obind (nthI z8.2.2.2.2.1 (0 : Int)) fun z9 =>
            obind (m_splice_Join N (z8.2.1, (z8.2.2.1, (z8.2.2.2.1, (z5, (z8.2.2.2.2.1, (z8.2.2.2.2.2.1, (z8.2.2.2.2.2.2, z9)))))))) fun z10 =>
            obind (m_splice_From N (t, (t2, (t3, z5)))) fun z11 =>
            obind (m_splice_From N (z10.2.1, (z10.2.2.1, (z10.2.2.2, z5)))) fun z12 =>
            cond z10.1
             (cond z11.1
               (cond z12.1
                 (obind (m_ref14_Right N (z8.2.1, (z8.2.2.1, z8.2.2.2.1))) fun z13 =>
                  cond z13
                   (obind (m_ref14_Right N (z8.2.2.2.2.1, (z8.2.2.2.2.2.1, z8.2.2.2.2.2.2))) fun z14 =>
                    cond z14
                     (obind (m_ref14_Same N (z11.2.1, (z11.2.2.1, (z11.2.2.2, (z12.2.1, (z12.2.2.1, z12.2.2.2)))))) fun z15 =>
                      cond z15
                       (obind (m_splice_Links N (t, (t2, t3))) fun z16 =>
                        obind (m_splice_Links N (z10.2.1, (z10.2.2.1, z10.2.2.2))) fun z17 =>
                        obind (m_splice_Changed N (z16, z17)) fun z18 =>
                        some (decide (z18 = (0 : Int))))
                       (some false))
                     (some false))
                   (some false))
                 (some false))
               (some false))
             (some false)))))) := by kernel_rfl
theorem c_law15_SpliceBack_ok (N : Nat) : (c_law15_SpliceBack N).ok Try.prog := exF_ok (T := T) (CT := ct_law15_SpliceBack) (N := N) (fun M => ⟨tOk, (ctAll_cons (c_law15_alive_ok M) (ctAll_cons (c_ref14_Great_ok M) (ctAll_cons (c_ref14_Right_ok M) (ctAll_cons (c_splice_Cut_ok M) (ctAll_cons (c_splice_Join_ok M) (ctAll_cons (c_splice_From_ok M) (ctAll_cons (c_ref14_Same_ok M) (ctAll_cons (c_splice_Links_ok M) (ctAll_cons (c_splice_Changed_ok M) ctAll_nil))))))))), mixed⟩) Try.func5 (by kernel_rfl) (by kernel_rfl) p_law15_SpliceBack [.ag [.h (.sl (.i .i64)), .h (.sl (.i .i64)), .h (.sl (.sl (.i .i64)))], .ag [.h (.i .u8), .h (.i .u8)]] [] [(.sl (.i .i64)), (.sl (.i .i64)), (.sl (.sl (.i .i64))), (.i .u8), (.i .u8)] r_law15_SpliceBack false true [] (by kernel_rfl) (fun y => by kernel_rfl) (fun _ => ⟨rfl, rfl⟩) (fun y => by kernel_rfl) (m_law15_SpliceBack N) (fun x => by kernel_rfl)
/-! archipelago/archipelagolaw15.SpliceFew -/
noncomputable def ct_law15_SpliceFew (N : Nat) : List Ctr := [c_law15_alive N, c_ref14_Great N, c_ref14_Right N, c_splice_Cut N, c_splice_Links N, c_splice_Changed N]
def i_law15_SpliceFew_1 : PS := ⟨[(2, .k (.pt 900 0)), (5, .h (.i .i64)), (11, .k (.ow 901)), (12, .h (.i .i64)), (13, .h (.i .i64))], [(900, .box 25 [.h (.sl (.i .i64)), .h (.sl (.i .i64)), .h (.sl (.sl (.i .i64)))]), (901, .arr 51 (.pr (.i .i64) (.pr (.i .i64) (.i .i64))) true)], [(.i .i64), (.i .i64), (.i .i64), (.sl (.i .i64)), (.sl (.i .i64)), (.sl (.sl (.i .i64))), (.sl (.pr (.i .i64) (.pr (.i .i64) (.i .i64))))]⟩
def o_law15_SpliceFew_1 : List (Exit × PS) := [((.exit 0), ⟨[(2, .k (.pt 900 0)), (11, .k (.ow 901)), (12, .h (.i .i64))], [(900, .box 25 [.h (.sl (.i .i64)), .h (.sl (.i .i64)), .h (.sl (.sl (.i .i64)))]), (901, .arr 51 (.pr (.i .i64) (.pr (.i .i64) (.i .i64))) true)], [(.i .i64), (.sl (.i .i64)), (.sl (.i .i64)), (.sl (.sl (.i .i64))), (.sl (.pr (.i .i64) (.pr (.i .i64) (.i .i64))))]⟩)]
def p_law15_SpliceFew_1 : Pl := .z
noncomputable def l_law15_SpliceFew_1 (N : Nat) : Nat → Int × Int × Int × (List Int) × (List Int) × (List (List Int)) × (List (Int × (Int × Int))) → Option (Int × (List Int) × (List Int) × (List (List Int)) × (List (Int × (Int × Int)))) := loopF (exC T (ct_law15_SpliceFew N) N (codeAt [1, 1, 1, 1, 1, 1, 1, 1, 1, 0, 1, 0, 0] (bodyOf Try.f6))) 89 i_law15_SpliceFew_1 o_law15_SpliceFew_1 p_law15_SpliceFew_1
def p_law15_SpliceFew : Pl := (.n .z (.n .z (.n .z (.n .z (.n .z (.n .z (.n .z (.n .z (.n .z (.n (.n .z (.n (.loop i_law15_SpliceFew_1 o_law15_SpliceFew_1 p_law15_SpliceFew_1) .z)) .z))))))))))
def r_law15_SpliceFew : PS := ⟨[(4, .h .b)], [], [.b]⟩
noncomputable def m_law15_SpliceFew (N : Nat) : (List Int) × (List Int) × (List (List Int)) × Int × Int → Option (Bool) := exF T ct_law15_SpliceFew N (bodyOf Try.f6) 89 p_law15_SpliceFew [.ag [.h (.sl (.i .i64)), .h (.sl (.i .i64)), .h (.sl (.sl (.i .i64)))], .ag [.h (.i .u8), .h (.i .u8)]] [] [(.sl (.i .i64)), (.sl (.i .i64)), (.sl (.sl (.i .i64))), (.i .u8), (.i .u8)] r_law15_SpliceFew
noncomputable def c_law15_SpliceFew (N : Nat) : Ctr := ⟨6, [.ag [.h (.sl (.i .i64)), .h (.sl (.i .i64)), .h (.sl (.sl (.i .i64)))], .ag [.h (.i .u8), .h (.i .u8)]], [], [(.sl (.i .i64)), (.sl (.i .i64)), (.sl (.sl (.i .i64))), (.i .u8), (.i .u8)], Tup r_law15_SpliceFew.c, m_law15_SpliceFew N, fun y _ k => k (resG T (mkPS 89 r_law15_SpliceFew y) Try.f6.results.toList) (keepH' [] (mkPS 89 r_law15_SpliceFew y).h), false, true⟩
theorem l_law15_SpliceFew_1_z (N : Nat) (v : Int × Int × Int × (List Int) × (List Int) × (List (List Int)) × (List (Int × (Int × Int)))) : l_law15_SpliceFew_1 N 0 v = none := by kernel_rfl
theorem l_law15_SpliceFew_1_s (N m : Nat) (n : Int) (most : Int) (i : Int) (t : (List Int)) (t2 : (List Int)) (t3 : (List (List Int))) (l : (List (Int × (Int × Int)))) : l_law15_SpliceFew_1 N (m + 1) (n, most, i, t, t2, t3, l) = cond (decide (i < n))
   (obind (nthI t2 i) fun z1 =>
    (l_law15_SpliceFew_1 N m (n, ((if (z1 > most) then z1 else most), ((IntKind.wrap .i64 (i + (1 : Int))), (t, (t2, (t3, l))))))))
   (some (most, (t, (t2, (t3, l))))) := by kernel_rfl
theorem m_law15_SpliceFew_eq (N : Nat) (t : (List Int)) (t2 : (List Int)) (t3 : (List (List Int))) (two : Int) (two2 : Int) : m_law15_SpliceFew (N + 1) (t, t2, t3, two, two2) = obind (m_law15_alive N ()) fun z1 =>
  cond (!z1)
   (some false)
   (obind (m_ref14_Great N (t, (t2, (t3, (200 : Int))))) fun z2 =>
    cond z2
     (some true)
     (obind (m_ref14_Right N (t, (t2, t3))) fun z3 =>
      cond (!z3)
       (some true)
       (obind (remI (IntKind.wrap .i64 two) (((List.length t) : Nat) : Int)) fun z4 =>
        obind (nthI t z4) fun z5 =>
        obind (remI (IntKind.wrap .i64 two2) (((List.length t) : Nat) : Int)) fun z6 =>
        obind (nthI t z6) fun z7 =>
        obind (m_splice_Cut N (t, (t2, (t3, (z5, z7))))) fun z8 =>
        cond (!z8.1)
         (some (decide (z5 = z7)))
         (obind (m_splice_Links N (z8.2.1, (z8.2.2.1, z8.2.2.2.1))) fun z9 =>
          obind (m_splice_Links N (z8.2.2.2.2.1, (z8.2.2.2.2.2.1, z8.2.2.2.2.2.2))) fun z10 =>
          obind (appI (24 : Nat) z9 z10) fun z11 =>
          obind (l_law15_SpliceFew_1 N N ((((List.length t) : Nat) : Int), ((0 : Int), ((0 : Int), (t, (t2, (t3, z11))))))) fun z12 =>
          obind (m_splice_Links N (z12.2.1, (z12.2.2.1, z12.2.2.2.1))) fun z13 =>
          obind (m_splice_Changed N (z13, z12.2.2.2.2)) fun z14 =>
          cond (decide (z14 ≤ (IntKind.wrap .i64 ((2 : Int) * z12.1))))
           (obind (m_splice_Links N (z12.2.1, (z12.2.2.1, z12.2.2.2.1))) fun z15 =>
            some (decide ((((List.length z12.2.2.2.2) : Nat) : Int) = (((List.length z15) : Nat) : Int))))
           (some false))))) := by kernel_rfl
theorem c_law15_SpliceFew_ok (N : Nat) : (c_law15_SpliceFew N).ok Try.prog := exF_ok (T := T) (CT := ct_law15_SpliceFew) (N := N) (fun M => ⟨tOk, (ctAll_cons (c_law15_alive_ok M) (ctAll_cons (c_ref14_Great_ok M) (ctAll_cons (c_ref14_Right_ok M) (ctAll_cons (c_splice_Cut_ok M) (ctAll_cons (c_splice_Links_ok M) (ctAll_cons (c_splice_Changed_ok M) ctAll_nil)))))), mixed⟩) Try.func6 (by kernel_rfl) (by kernel_rfl) p_law15_SpliceFew [.ag [.h (.sl (.i .i64)), .h (.sl (.i .i64)), .h (.sl (.sl (.i .i64)))], .ag [.h (.i .u8), .h (.i .u8)]] [] [(.sl (.i .i64)), (.sl (.i .i64)), (.sl (.sl (.i .i64))), (.i .u8), (.i .u8)] r_law15_SpliceFew false true [] (by kernel_rfl) (fun y => by kernel_rfl) (fun _ => ⟨rfl, rfl⟩) (fun y => by kernel_rfl) (m_law15_SpliceFew N) (fun x => by kernel_rfl)
/-! archipelago/archipelagolaw15.SpliceTurns -/
noncomputable def ct_law15_SpliceTurns (N : Nat) : List Ctr := [c_law15_alive N, c_ref14_Great N, c_ref14_Right N, c_splice_From N, c_ref14_Same N, c_splice_Height N, c_splice_Links N, c_splice_Changed N]
def i_law15_SpliceTurns_1 : PS := ⟨[(2, .k (.pt 900 0)), (5, .h (.i .i64)), (7, .k (.pt 901 0)), (11, .h (.i .i64))], [(900, .box 25 [.h (.sl (.i .i64)), .h (.sl (.i .i64)), .h (.sl (.sl (.i .i64)))]), (901, .box 25 [.h (.sl (.i .i64)), .h (.sl (.i .i64)), .h (.sl (.sl (.i .i64)))])], [(.i .i64), (.i .i64), (.sl (.i .i64)), (.sl (.i .i64)), (.sl (.sl (.i .i64))), (.sl (.i .i64)), (.sl (.i .i64)), (.sl (.sl (.i .i64)))]⟩
def o_law15_SpliceTurns_1 : List (Exit × PS) := [((.exit 0), ⟨[(2, .k (.pt 900 0)), (7, .k (.pt 901 0))], [(900, .box 25 [.h (.sl (.i .i64)), .h (.sl (.i .i64)), .h (.sl (.sl (.i .i64)))]), (901, .box 25 [.h (.sl (.i .i64)), .h (.sl (.i .i64)), .h (.sl (.sl (.i .i64)))])], [(.sl (.i .i64)), (.sl (.i .i64)), (.sl (.sl (.i .i64))), (.sl (.i .i64)), (.sl (.i .i64)), (.sl (.sl (.i .i64)))]⟩), (.ret, ⟨[(4, .h .b)], [], [.b]⟩)]
def p_law15_SpliceTurns_1 : Pl := .z
noncomputable def l_law15_SpliceTurns_1 (N : Nat) : Nat → Int × Int × (List Int) × (List Int) × (List (List Int)) × (List Int) × (List Int) × (List (List Int)) → Option (((List Int) × (List Int) × (List (List Int)) × (List Int) × (List Int) × (List (List Int))) ⊕ (Bool)) := loopF (exC T (ct_law15_SpliceTurns N) N (codeAt [1, 1, 1, 1, 1, 1, 1, 1, 0, 1, 0, 0] (bodyOf Try.f7))) 102 i_law15_SpliceTurns_1 o_law15_SpliceTurns_1 p_law15_SpliceTurns_1
def p_law15_SpliceTurns : Pl := (.n .z (.n .z (.n .z (.n .z (.n .z (.n .z (.n .z (.n .z (.n (.n .z (.n (.loop i_law15_SpliceTurns_1 o_law15_SpliceTurns_1 p_law15_SpliceTurns_1) .z)) .z)))))))))
def r_law15_SpliceTurns : PS := ⟨[(4, .h .b)], [], [.b]⟩
noncomputable def m_law15_SpliceTurns (N : Nat) : (List Int) × (List Int) × (List (List Int)) × Int → Option (Bool) := exF T ct_law15_SpliceTurns N (bodyOf Try.f7) 102 p_law15_SpliceTurns [.ag [.h (.sl (.i .i64)), .h (.sl (.i .i64)), .h (.sl (.sl (.i .i64)))], .h (.i .u8)] [] [(.sl (.i .i64)), (.sl (.i .i64)), (.sl (.sl (.i .i64))), (.i .u8)] r_law15_SpliceTurns
noncomputable def c_law15_SpliceTurns (N : Nat) : Ctr := ⟨7, [.ag [.h (.sl (.i .i64)), .h (.sl (.i .i64)), .h (.sl (.sl (.i .i64)))], .h (.i .u8)], [], [(.sl (.i .i64)), (.sl (.i .i64)), (.sl (.sl (.i .i64))), (.i .u8)], Tup r_law15_SpliceTurns.c, m_law15_SpliceTurns N, fun y _ k => k (resG T (mkPS 102 r_law15_SpliceTurns y) Try.f7.results.toList) (keepH' [] (mkPS 102 r_law15_SpliceTurns y).h), false, true⟩
theorem l_law15_SpliceTurns_1_z (N : Nat) (v : Int × Int × (List Int) × (List Int) × (List (List Int)) × (List Int) × (List Int) × (List (List Int))) : l_law15_SpliceTurns_1 N 0 v = none := by kernel_rfl
theorem l_law15_SpliceTurns_1_s (N m : Nat) (n : Int) (i : Int) (t : (List Int)) (t2 : (List Int)) (t3 : (List (List Int))) (f : (List Int)) (f2 : (List Int)) (f3 : (List (List Int))) : l_law15_SpliceTurns_1 N (m + 1) (n, i, t, t2, t3, f, f2, f3) = cond (decide (i < n))
   (obind (nthI t i) fun z1 =>
    obind (m_splice_Height N (f, (f2, (f3, z1)))) fun z2 =>
    obind (nthI t2 i) fun z3 =>
    cond (!(decide (z2 = z3)))
     (some (.inr false))
     ((l_law15_SpliceTurns_1 N m (n, ((IntKind.wrap .i64 (i + (1 : Int))), (t, (t2, (t3, (f, (f2, f3))))))))))
   (some (.inl (t, (t2, (t3, (f, (f2, f3))))))) := by kernel_rfl
theorem m_law15_SpliceTurns_eq (N : Nat) (t : (List Int)) (t2 : (List Int)) (t3 : (List (List Int))) (k : Int) : m_law15_SpliceTurns (N + 1) (t, t2, t3, k) = obind (m_law15_alive N ()) fun z1 =>
  cond (!z1)
   (some false)
   (obind (m_ref14_Great N (t, (t2, (t3, (200 : Int))))) fun z2 =>
    cond z2
     (some true)
     (obind (m_ref14_Right N (t, (t2, t3))) fun z3 =>
      cond (!z3)
       (some true)
       (obind (remI (IntKind.wrap .i64 k) (((List.length t) : Nat) : Int)) fun z4 =>
        obind (nthI t z4) fun z5 =>
        obind (m_splice_From N (t, (t2, (t3, z5)))) fun z6 =>
        obind (nthI t (0 : Int)) fun z7 =>
        obind (m_splice_From N (z6.2.1, (z6.2.2.1, (z6.2.2.2, z7)))) fun z8 =>
        cond (!z6.1)
         (some false)
         (cond (!z8.1)
           (some false)
           (cond (!(decide ((((List.length z6.2.1) : Nat) : Int) = (((List.length t) : Nat) : Int))))
             (some false)
             (obind (nthI z6.2.1 (0 : Int)) fun z9 =>
              cond (!(decide (z9 = z5)))
               (some false)
               (obind (m_ref14_Same N (z8.2.1, (z8.2.2.1, (z8.2.2.2, (t, (t2, t3)))))) fun z10 =>
                cond (!z10)
                 (some false)
                 (obind (l_law15_SpliceTurns_1 N N ((((List.length t) : Nat) : Int), ((0 : Int), (t, (t2, (t3, (z6.2.1, (z6.2.2.1, z6.2.2.2)))))))) fun z11 =>
                  (match z11 with
                  | .inl zy12 => obind (m_splice_Links N (zy12.1, (zy12.2.1, zy12.2.2.1))) fun z13 =>
                    obind (m_splice_Links N (zy12.2.2.2.1, (zy12.2.2.2.2.1, zy12.2.2.2.2.2))) fun z14 =>
                    obind (m_splice_Changed N (z13, z14)) fun z15 =>
                    cond (decide (z15 = (0 : Int)))
                     (obind (m_ref14_Right N (zy12.2.2.2.1, (zy12.2.2.2.2.1, zy12.2.2.2.2.2))) fun z16 =>
                      some z16)
                     (some false)
                  | .inr zy17 => some zy17))))))))) := by kernel_rfl
theorem c_law15_SpliceTurns_ok (N : Nat) : (c_law15_SpliceTurns N).ok Try.prog := exF_ok (T := T) (CT := ct_law15_SpliceTurns) (N := N) (fun M => ⟨tOk, (ctAll_cons (c_law15_alive_ok M) (ctAll_cons (c_ref14_Great_ok M) (ctAll_cons (c_ref14_Right_ok M) (ctAll_cons (c_splice_From_ok M) (ctAll_cons (c_ref14_Same_ok M) (ctAll_cons (c_splice_Height_ok M) (ctAll_cons (c_splice_Links_ok M) (ctAll_cons (c_splice_Changed_ok M) ctAll_nil)))))))), mixed⟩) Try.func7 (by kernel_rfl) (by kernel_rfl) p_law15_SpliceTurns [.ag [.h (.sl (.i .i64)), .h (.sl (.i .i64)), .h (.sl (.sl (.i .i64)))], .h (.i .u8)] [] [(.sl (.i .i64)), (.sl (.i .i64)), (.sl (.sl (.i .i64))), (.i .u8)] r_law15_SpliceTurns false true [] (by kernel_rfl) (fun y => by kernel_rfl) (fun _ => ⟨rfl, rfl⟩) (fun y => by kernel_rfl) (m_law15_SpliceTurns N) (fun x => by kernel_rfl)
/-! archipelago/archipelagolaw15.SpliceJoins -/
noncomputable def ct_law15_SpliceJoins (N : Nat) : List Ctr := [c_law15_alive N, c_ref14_Great N, c_ref14_Right N, c_splice_Join N, c_splice_Links N, c_splice_Height N, c_splice_Changed N]
def i_law15_SpliceJoins_2 : PS := ⟨[(3, .k (.pt 900 0)), (4, .k (.pt 901 0)), (7, .h (.i .i64)), (8, .h (.i .i64)), (9, .k (.pt 902 0)), (11, .h (.i .i64)), (13, .h (.i .i64))], [(900, .box 25 [.h (.sl (.i .i64)), .h (.sl (.i .i64)), .h (.sl (.sl (.i .i64)))]), (901, .box 25 [.h (.sl (.i .i64)), .h (.sl (.i .i64)), .h (.sl (.sl (.i .i64)))]), (902, .box 25 [.h (.sl (.i .i64)), .h (.sl (.i .i64)), .h (.sl (.sl (.i .i64)))])], [(.i .i64), (.i .i64), (.i .i64), (.i .i64), (.sl (.i .i64)), (.sl (.i .i64)), (.sl (.sl (.i .i64))), (.sl (.i .i64)), (.sl (.i .i64)), (.sl (.sl (.i .i64))), (.sl (.i .i64)), (.sl (.i .i64)), (.sl (.sl (.i .i64)))]⟩
def o_law15_SpliceJoins_2 : List (Exit × PS) := [((.exit 2), ⟨[(3, .k (.pt 900 0)), (4, .k (.pt 901 0)), (7, .h (.i .i64)), (8, .h (.i .i64)), (9, .k (.pt 902 0)), (11, .h (.i .i64))], [(900, .box 25 [.h (.sl (.i .i64)), .h (.sl (.i .i64)), .h (.sl (.sl (.i .i64)))]), (901, .box 25 [.h (.sl (.i .i64)), .h (.sl (.i .i64)), .h (.sl (.sl (.i .i64)))]), (902, .box 25 [.h (.sl (.i .i64)), .h (.sl (.i .i64)), .h (.sl (.sl (.i .i64)))])], [(.i .i64), (.i .i64), (.i .i64), (.sl (.i .i64)), (.sl (.i .i64)), (.sl (.sl (.i .i64))), (.sl (.i .i64)), (.sl (.i .i64)), (.sl (.sl (.i .i64))), (.sl (.i .i64)), (.sl (.i .i64)), (.sl (.sl (.i .i64)))]⟩)]
def p_law15_SpliceJoins_2 : Pl := .z
noncomputable def l_law15_SpliceJoins_2 (N : Nat) : Nat → Int × Int × Int × Int × (List Int) × (List Int) × (List (List Int)) × (List Int) × (List Int) × (List (List Int)) × (List Int) × (List Int) × (List (List Int)) → Option (Int × Int × Int × (List Int) × (List Int) × (List (List Int)) × (List Int) × (List Int) × (List (List Int)) × (List Int) × (List Int) × (List (List Int))) := loopF (exC T (ct_law15_SpliceJoins N) N (codeAt [1, 1, 1, 1, 1, 1, 1, 1, 0, 1, 0, 0] (bodyOf Try.f8))) 151 i_law15_SpliceJoins_2 o_law15_SpliceJoins_2 p_law15_SpliceJoins_2
def i_law15_SpliceJoins_1 : PS := ⟨[(3, .k (.pt 900 0)), (4, .k (.pt 901 0)), (7, .h (.i .i64)), (8, .h (.i .i64)), (9, .k (.pt 902 0)), (11, .h (.i .i64)), (12, .h (.i .i64))], [(900, .box 25 [.h (.sl (.i .i64)), .h (.sl (.i .i64)), .h (.sl (.sl (.i .i64)))]), (901, .box 25 [.h (.sl (.i .i64)), .h (.sl (.i .i64)), .h (.sl (.sl (.i .i64)))]), (902, .box 25 [.h (.sl (.i .i64)), .h (.sl (.i .i64)), .h (.sl (.sl (.i .i64)))])], [(.i .i64), (.i .i64), (.i .i64), (.i .i64), (.sl (.i .i64)), (.sl (.i .i64)), (.sl (.sl (.i .i64))), (.sl (.i .i64)), (.sl (.i .i64)), (.sl (.sl (.i .i64))), (.sl (.i .i64)), (.sl (.i .i64)), (.sl (.sl (.i .i64)))]⟩
def o_law15_SpliceJoins_1 : List (Exit × PS) := [((.exit 0), ⟨[(3, .k (.pt 900 0)), (4, .k (.pt 901 0)), (7, .h (.i .i64)), (8, .h (.i .i64)), (9, .k (.pt 902 0)), (11, .h (.i .i64))], [(900, .box 25 [.h (.sl (.i .i64)), .h (.sl (.i .i64)), .h (.sl (.sl (.i .i64)))]), (901, .box 25 [.h (.sl (.i .i64)), .h (.sl (.i .i64)), .h (.sl (.sl (.i .i64)))]), (902, .box 25 [.h (.sl (.i .i64)), .h (.sl (.i .i64)), .h (.sl (.sl (.i .i64)))])], [(.i .i64), (.i .i64), (.i .i64), (.sl (.i .i64)), (.sl (.i .i64)), (.sl (.sl (.i .i64))), (.sl (.i .i64)), (.sl (.i .i64)), (.sl (.sl (.i .i64))), (.sl (.i .i64)), (.sl (.i .i64)), (.sl (.sl (.i .i64)))]⟩)]
def p_law15_SpliceJoins_1 : Pl := .z
noncomputable def l_law15_SpliceJoins_1 (N : Nat) : Nat → Int × Int × Int × Int × (List Int) × (List Int) × (List (List Int)) × (List Int) × (List Int) × (List (List Int)) × (List Int) × (List Int) × (List (List Int)) → Option (Int × Int × Int × (List Int) × (List Int) × (List (List Int)) × (List Int) × (List Int) × (List (List Int)) × (List Int) × (List Int) × (List (List Int))) := loopF (exC T (ct_law15_SpliceJoins N) N (codeAt [1, 1, 1, 1, 1, 1, 1, 0, 1, 0, 0] (bodyOf Try.f8))) 151 i_law15_SpliceJoins_1 o_law15_SpliceJoins_1 p_law15_SpliceJoins_1
def p_law15_SpliceJoins : Pl := (.n .z (.n .z (.n .z (.n .z (.n .z (.n .z (.n .z (.n (.n .z (.n (.loop i_law15_SpliceJoins_1 o_law15_SpliceJoins_1 p_law15_SpliceJoins_1) .z)) (.n (.n .z (.n (.loop i_law15_SpliceJoins_2 o_law15_SpliceJoins_2 p_law15_SpliceJoins_2) .z)) .z)))))))))
def r_law15_SpliceJoins : PS := ⟨[(6, .h .b)], [], [.b]⟩
noncomputable def m_law15_SpliceJoins (N : Nat) : (List Int) × (List Int) × (List (List Int)) × (List Int) × (List Int) × (List (List Int)) × Int × Int → Option (Bool) := exF T ct_law15_SpliceJoins N (bodyOf Try.f8) 151 p_law15_SpliceJoins [.ag [.h (.sl (.i .i64)), .h (.sl (.i .i64)), .h (.sl (.sl (.i .i64)))], .ag [.h (.sl (.i .i64)), .h (.sl (.i .i64)), .h (.sl (.sl (.i .i64)))], .ag [.h (.i .u8), .h (.i .u8)]] [] [(.sl (.i .i64)), (.sl (.i .i64)), (.sl (.sl (.i .i64))), (.sl (.i .i64)), (.sl (.i .i64)), (.sl (.sl (.i .i64))), (.i .u8), (.i .u8)] r_law15_SpliceJoins
noncomputable def c_law15_SpliceJoins (N : Nat) : Ctr := ⟨8, [.ag [.h (.sl (.i .i64)), .h (.sl (.i .i64)), .h (.sl (.sl (.i .i64)))], .ag [.h (.sl (.i .i64)), .h (.sl (.i .i64)), .h (.sl (.sl (.i .i64)))], .ag [.h (.i .u8), .h (.i .u8)]], [], [(.sl (.i .i64)), (.sl (.i .i64)), (.sl (.sl (.i .i64))), (.sl (.i .i64)), (.sl (.i .i64)), (.sl (.sl (.i .i64))), (.i .u8), (.i .u8)], Tup r_law15_SpliceJoins.c, m_law15_SpliceJoins N, fun y _ k => k (resG T (mkPS 151 r_law15_SpliceJoins y) Try.f8.results.toList) (keepH' [] (mkPS 151 r_law15_SpliceJoins y).h), false, true⟩
theorem l_law15_SpliceJoins_2_z (N : Nat) (v : Int × Int × Int × Int × (List Int) × (List Int) × (List (List Int)) × (List Int) × (List Int) × (List (List Int)) × (List Int) × (List Int) × (List (List Int))) : l_law15_SpliceJoins_2 N 0 v = none := by kernel_rfl
theorem l_law15_SpliceJoins_2_s (N m : Nat) (x : Int) (y : Int) (most : Int) (i : Int) (a : (List Int)) (a2 : (List Int)) (a3 : (List (List Int))) (b : (List Int)) (b2 : (List Int)) (b3 : (List (List Int))) (j : (List Int)) (j2 : (List Int)) (j3 : (List (List Int))) : l_law15_SpliceJoins_2 N (m + 1) (x, y, most, i, a, a2, a3, b, b2, b3, j, j2, j3) = cond (decide (i < (((List.length b2) : Nat) : Int)))
   (obind (nthI b2 i) fun z1 =>
    (l_law15_SpliceJoins_2 N m (x, (y, ((if (z1 > most) then z1 else most), ((IntKind.wrap .i64 (i + (1 : Int))), (a, (a2, (a3, (b, (b2, (b3, (j, (j2, j3))))))))))))))
   (some (x, (y, (most, (a, (a2, (a3, (b, (b2, (b3, (j, (j2, j3)))))))))))) := by kernel_rfl
theorem l_law15_SpliceJoins_1_z (N : Nat) (v : Int × Int × Int × Int × (List Int) × (List Int) × (List (List Int)) × (List Int) × (List Int) × (List (List Int)) × (List Int) × (List Int) × (List (List Int))) : l_law15_SpliceJoins_1 N 0 v = none := by kernel_rfl
theorem l_law15_SpliceJoins_1_s (N m : Nat) (x : Int) (y : Int) (most : Int) (i : Int) (a : (List Int)) (a2 : (List Int)) (a3 : (List (List Int))) (b : (List Int)) (b2 : (List Int)) (b3 : (List (List Int))) (j : (List Int)) (j2 : (List Int)) (j3 : (List (List Int))) : l_law15_SpliceJoins_1 N (m + 1) (x, y, most, i, a, a2, a3, b, b2, b3, j, j2, j3) = cond (decide (i < (((List.length a2) : Nat) : Int)))
   (obind (nthI a2 i) fun z1 =>
    (l_law15_SpliceJoins_1 N m (x, (y, ((if (z1 > most) then z1 else most), ((IntKind.wrap .i64 (i + (1 : Int))), (a, (a2, (a3, (b, (b2, (b3, (j, (j2, j3))))))))))))))
   (some (x, (y, (most, (a, (a2, (a3, (b, (b2, (b3, (j, (j2, j3)))))))))))) := by kernel_rfl
theorem m_law15_SpliceJoins_eq (N : Nat) (a : (List Int)) (a2 : (List Int)) (a3 : (List (List Int))) (b : (List Int)) (b2 : (List Int)) (b3 : (List (List Int))) (two : Int) (two2 : Int) : m_law15_SpliceJoins (N + 1) (a, a2, a3, b, b2, b3, two, two2) = obind (m_law15_alive N ()) fun z1 =>
  cond (!z1)
   (some false)
   (obind (m_ref14_Great N (a, (a2, (a3, (150 : Int))))) fun z2 =>
    cond z2
     (some true)
     (obind (m_ref14_Great N (b, (b2, (b3, (150 : Int))))) fun z3 =>
      cond z3
       (some true)
       (obind (m_ref14_Right N (a, (a2, a3))) fun z4 =>
        cond (!z4)
         (some true)
         (obind (m_ref14_Right N (b, (b2, b3))) fun z5 =>
          cond (!z5)
           (some true)
           (obind (remI (IntKind.wrap .i64 two) (((List.length a) : Nat) : Int)) fun z6 =>
            obind (nthI a z6) fun z7 =>
            obind (remI (IntKind.wrap .i64 two2) (((List.length b) : Nat) : Int)) fun z8 =>
            obind (nthI b z8) fun z9 =>
            obind (m_splice_Join N (a, (a2, (a3, (z7, (b, (b2, (b3, z9)))))))) fun z10 =>
            cond (!z10.1)
             (some (decide ((((List.length z10.2.1) : Nat) : Int) = (0 : Int))))
             (obind (l_law15_SpliceJoins_1 N N (z7, (z9, ((0 : Int), ((0 : Int), (a, (a2, (a3, (b, (b2, (b3, (z10.2.1, (z10.2.2.1, z10.2.2.2))))))))))))) fun z11 =>
              obind (l_law15_SpliceJoins_2 N N (z11.1, (z11.2.1, (z11.2.2.1, ((0 : Int), (z11.2.2.2.1, (z11.2.2.2.2.1, (z11.2.2.2.2.2.1, (z11.2.2.2.2.2.2.1, (z11.2.2.2.2.2.2.2.1, (z11.2.2.2.2.2.2.2.2.1, (z11.2.2.2.2.2.2.2.2.2.1, (z11.2.2.2.2.2.2.2.2.2.2.1, z11.2.2.2.2.2.2.2.2.2.2.2))))))))))))) fun z12 =>
              obind (m_splice_Links N (z12.2.2.2.1, (z12.2.2.2.2.1, z12.2.2.2.2.2.1))) fun z13 =>
              obind (appI (24 : Nat) [] z13) fun z14 =>
              obind (m_splice_Links N (z12.2.2.2.2.2.2.1, (z12.2.2.2.2.2.2.2.1, z12.2.2.2.2.2.2.2.2.1))) fun z15 =>
              obind (appI (24 : Nat) z14 z15) fun z16 =>
              obind (m_splice_Links N (z12.2.2.2.2.2.2.2.2.2.1, (z12.2.2.2.2.2.2.2.2.2.2.1, z12.2.2.2.2.2.2.2.2.2.2.2))) fun z17 =>
              cond (decide ((((List.length z12.2.2.2.2.2.2.2.2.2.1) : Nat) : Int) = (IntKind.wrap .i64 ((((List.length z12.2.2.2.1) : Nat) : Int) + (((List.length z12.2.2.2.2.2.2.1) : Nat) : Int)))))
               (obind (m_splice_Height N (z12.2.2.2.2.2.2.2.2.2.1, (z12.2.2.2.2.2.2.2.2.2.2.1, (z12.2.2.2.2.2.2.2.2.2.2.2, z12.1)))) fun z18 =>
                obind (m_splice_Height N (z12.2.2.2.1, (z12.2.2.2.2.1, (z12.2.2.2.2.2.1, z12.1)))) fun z19 =>
                cond (decide (z18 = z19))
                 (obind (m_splice_Height N (z12.2.2.2.2.2.2.2.2.2.1, (z12.2.2.2.2.2.2.2.2.2.2.1, (z12.2.2.2.2.2.2.2.2.2.2.2, z12.2.1)))) fun z20 =>
                  obind (m_splice_Height N (z12.2.2.2.2.2.2.1, (z12.2.2.2.2.2.2.2.1, (z12.2.2.2.2.2.2.2.2.1, z12.2.1)))) fun z21 =>
                  cond (decide (z20 = z21))
                   (cond (decide ((((List.length z17) : Nat) : Int) = (((List.length z16) : Nat) : Int)))
                     (obind (m_splice_Changed N (z16, z17)) fun z22 =>
                      some (decide (z22 ≤ (IntKind.wrap .i64 ((2 : Int) * z12.2.2.1)))))
                     (some false))
                   (some false))
                 (some false))
               (some false))))))) := by kernel_rfl
theorem c_law15_SpliceJoins_ok (N : Nat) : (c_law15_SpliceJoins N).ok Try.prog := exF_ok (T := T) (CT := ct_law15_SpliceJoins) (N := N) (fun M => ⟨tOk, (ctAll_cons (c_law15_alive_ok M) (ctAll_cons (c_ref14_Great_ok M) (ctAll_cons (c_ref14_Right_ok M) (ctAll_cons (c_splice_Join_ok M) (ctAll_cons (c_splice_Links_ok M) (ctAll_cons (c_splice_Height_ok M) (ctAll_cons (c_splice_Changed_ok M) ctAll_nil))))))), mixed⟩) Try.func8 (by kernel_rfl) (by kernel_rfl) p_law15_SpliceJoins [.ag [.h (.sl (.i .i64)), .h (.sl (.i .i64)), .h (.sl (.sl (.i .i64)))], .ag [.h (.sl (.i .i64)), .h (.sl (.i .i64)), .h (.sl (.sl (.i .i64)))], .ag [.h (.i .u8), .h (.i .u8)]] [] [(.sl (.i .i64)), (.sl (.i .i64)), (.sl (.sl (.i .i64))), (.sl (.i .i64)), (.sl (.i .i64)), (.sl (.sl (.i .i64))), (.i .u8), (.i .u8)] r_law15_SpliceJoins false true [] (by kernel_rfl) (fun y => by kernel_rfl) (fun _ => ⟨rfl, rfl⟩) (fun y => by kernel_rfl) (m_law15_SpliceJoins N) (fun x => by kernel_rfl)
end Go.Proofs.Ytggnolfcgaglfaa
