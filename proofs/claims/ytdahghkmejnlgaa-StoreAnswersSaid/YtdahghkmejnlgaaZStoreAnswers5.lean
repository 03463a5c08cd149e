/- StoreAnswers: the seat's texts as one (5 of 6; printed by wip/prune.py). -/
import Derived.Test.YtdahghkmejnlgaaZStoreAnswers4
section
set_option linter.unusedVariables false
set_option maxRecDepth 100000
namespace Go.Proofs.Ytdahghkmejnlgaa
open Go Go.RowKit
noncomputable def ct_ref13_Place (N : Nat) : List Ctr := []
def i_ref13_Place_1 : PS := ⟨[(0, .h (.sl (.i .i64))), (1, .h (.i .i64)), (5, .h (.i .i64))], [], [(.sl (.i .i64)), (.i .i64), (.i .i64)]⟩
def o_ref13_Place_1 : List (Exit × PS) := [((.exit 0), ⟨[], [], []⟩), (.ret, ⟨[(4, .h (.i .i64))], [], [(.i .i64)]⟩)]
def p_ref13_Place_1 : Pl := .z
noncomputable def l_ref13_Place_1 (N : Nat) : Nat → (List Int) × Int × Int → Option ((Unit) ⊕ (Int)) := loopF (exC T (ct_ref13_Place N) N (codeAt [1, 0, 1, 0, 0] (bodyOf Try.f78))) 19 i_ref13_Place_1 o_ref13_Place_1 p_ref13_Place_1
def p_ref13_Place : Pl := (.n .z (.n (.n .z (.n (.loop i_ref13_Place_1 o_ref13_Place_1 p_ref13_Place_1) .z)) .z))
def r_ref13_Place : PS := ⟨[(4, .h (.i .i64))], [], [(.i .i64)]⟩
noncomputable def m_ref13_Place (N : Nat) : (List Int) × Int → Option (Int) := exF T ct_ref13_Place N (bodyOf Try.f78) 19 p_ref13_Place [.h (.sl (.i .i64)), .h (.i .i64)] [] [(.sl (.i .i64)), (.i .i64)] r_ref13_Place
noncomputable def c_ref13_Place (N : Nat) : Ctr := ⟨78, [.h (.sl (.i .i64)), .h (.i .i64)], [], [(.sl (.i .i64)), (.i .i64)], Tup r_ref13_Place.c, m_ref13_Place N, fun y _ k => k (resG T (mkPS 19 r_ref13_Place y) Try.f78.results.toList) (keepH' [] (mkPS 19 r_ref13_Place y).h), false, true⟩
theorem l_ref13_Place_1_s (N m : Nat) (l : (List Int)) (token : Int) (i : Int) : l_ref13_Place_1 N (m + 1) (l, token, i) = cond (decide (i < (((List.length l) : Nat) : Int)))
   (obind (nthI l i) fun z1 =>
    cond (decide (z1 = token))
     (some (.inr i))
     ((l_ref13_Place_1 N m (l, (token, (IntKind.wrap .i64 (i + (1 : Int))))))))
   (some (.inl ())) := by kernel_rfl
theorem m_ref13_Place_eq (N : Nat) (l : (List Int)) (token : Int) : m_ref13_Place (N + 1) (l, token) = obind (l_ref13_Place_1 N N (l, (token, (0 : Int)))) fun z1 =>
  (match z1 with
  | .inl zy2 => some (-(1 : Int))
  | .inr zy3 => some zy3) := by kernel_rfl
theorem c_ref13_Place_ok (N : Nat) : (c_ref13_Place N).ok Try.prog := exF_ok (T := T) (CT := ct_ref13_Place) (N := N) (fun M => ⟨tOk, ctAll_nil, mixed, bwAll⟩) Try.func78 (by kernel_rfl) (by kernel_rfl) p_ref13_Place [.h (.sl (.i .i64)), .h (.i .i64)] [] [(.sl (.i .i64)), (.i .i64)] r_ref13_Place false true [] (by kernel_rfl) (fun y => by kernel_rfl) (fun _ => ⟨rfl, rfl⟩) (fun y => by kernel_rfl) (m_ref13_Place N) (fun x => by kernel_rfl)
noncomputable def ct_ref13_Right (N : Nat) : List Ctr := [c_ref13_Place N]
def i_ref13_Right_1 : PS := ⟨[(0, .h (.sl (.i .i64))), (3, .h (.i .i64))], [], [(.sl (.i .i64)), (.i .i64)]⟩
def o_ref13_Right_1 : List (Exit × PS) := [((.exit 0), ⟨[], [], []⟩), (.ret, ⟨[(2, .h .b)], [], [.b]⟩)]
def p_ref13_Right_1 : Pl := .z
noncomputable def l_ref13_Right_1 (N : Nat) : Nat → (List Int) × Int → Option ((Unit) ⊕ (Bool)) := loopF (exC T (ct_ref13_Right N) N (codeAt [1, 1, 0, 1, 0, 0] (bodyOf Try.f57))) 36 i_ref13_Right_1 o_ref13_Right_1 p_ref13_Right_1
def p_ref13_Right : Pl := (.n .z (.n .z (.n (.n .z (.n (.loop i_ref13_Right_1 o_ref13_Right_1 p_ref13_Right_1) .z)) .z)))
def r_ref13_Right : PS := ⟨[(2, .h .b)], [], [.b]⟩
noncomputable def m_ref13_Right (N : Nat) : (List Int) → Option (Bool) := exF T ct_ref13_Right N (bodyOf Try.f57) 36 p_ref13_Right [.h (.sl (.i .i64))] [] [(.sl (.i .i64))] r_ref13_Right
noncomputable def c_ref13_Right (N : Nat) : Ctr := ⟨57, [.h (.sl (.i .i64))], [], [(.sl (.i .i64))], Tup r_ref13_Right.c, m_ref13_Right N, fun y _ k => k (resG T (mkPS 36 r_ref13_Right y) Try.f57.results.toList) (keepH' [] (mkPS 36 r_ref13_Right y).h), false, true⟩
theorem l_ref13_Right_1_s (N m : Nat) (l : (List Int)) (i : Int) : l_ref13_Right_1 N (m + 1) (l, i) = cond (decide (i < (((List.length l) : Nat) : Int)))
   (obind (nthI l i) fun z1 =>
    cond (decide (z1 < (0 : Int)))
     (some (.inr false))
     (obind (nthI l i) fun z2 =>
      cond (decide ((10000 : Int) < z2))
       (some (.inr false))
       (obind (subI l (0 : Int) i) fun z3 =>
        obind (nthI l i) fun z4 =>
        obind (m_ref13_Place N (z3, z4)) fun z5 =>
        cond (decide ((0 : Int) ≤ z5))
         (some (.inr false))
         ((l_ref13_Right_1 N m (l, (IntKind.wrap .i64 (i + (1 : Int)))))))))
   (some (.inl ())) := by kernel_rfl
theorem m_ref13_Right_eq (N : Nat) (l : (List Int)) : m_ref13_Right (N + 1) (l) = cond (decide ((1000 : Int) < (((List.length l) : Nat) : Int)))
   (some false)
   (obind (l_ref13_Right_1 N N (l, (0 : Int))) fun z1 =>
    (match z1 with
    | .inl zy2 => some true
    | .inr zy3 => some zy3)) := by kernel_rfl
theorem c_ref13_Right_ok (N : Nat) : (c_ref13_Right N).ok Try.prog := exF_ok (T := T) (CT := ct_ref13_Right) (N := N) (fun M => ⟨tOk, (ctAll_cons (c_ref13_Place_ok M) ctAll_nil), mixed, bwAll⟩) Try.func57 (by kernel_rfl) (by kernel_rfl) p_ref13_Right [.h (.sl (.i .i64))] [] [(.sl (.i .i64))] r_ref13_Right false true [] (by kernel_rfl) (fun y => by kernel_rfl) (fun _ => ⟨rfl, rfl⟩) (fun y => by kernel_rfl) (m_ref13_Right N) (fun x => by kernel_rfl)
noncomputable def ct_ref14_Build (N : Nat) : List Ctr := [c_ref13_Right N]
def i_ref14_Build_4 : PS := ⟨[(1, .h (.sl (.i .i64))), (4, .k (.pt 900 0)), (6, .h (.i .i64)), (8, .k (.pt 901 0)), (9, .h (.i .i64)), (10, .k (.ow 904)), (11, .h (.i .i64)), (12, .h (.i .i64))], [(900, .box 35 [.k .nil, .k .nil, .k .nil]), (901, .box 35 [.k (.ow 902), .k (.ow 903), .k (.ow 905)]), (904, .arr 3 (.i .i64) true), (902, .arr 3 (.i .i64) true), (903, .arr 3 (.i .i64) true), (905, .arr 22 (.sl (.i .i64)) true)], [(.sl (.i .i64)), (.i .i64), (.i .i64), (.i .i64), (.i .i64), (.sl (.i .i64)), (.sl (.i .i64)), (.sl (.i .i64)), (.sl (.sl (.i .i64)))]⟩
def o_ref14_Build_4 : List (Exit × PS) := [((.exit 6), ⟨[(1, .h (.sl (.i .i64))), (4, .k (.pt 900 0)), (6, .h (.i .i64)), (8, .k (.pt 901 0)), (9, .h (.i .i64)), (10, .k (.ow 902)), (11, .h (.i .i64)), (12, .h (.i .i64))], [(900, .box 35 [.k .nil, .k .nil, .k .nil]), (901, .box 35 [.k (.ow 903), .k (.ow 904), .k (.ow 905)]), (902, .arr 3 (.i .i64) true), (903, .arr 3 (.i .i64) true), (904, .arr 3 (.i .i64) true), (905, .arr 22 (.sl (.i .i64)) true)], [(.sl (.i .i64)), (.i .i64), (.i .i64), (.i .i64), (.i .i64), (.sl (.i .i64)), (.sl (.i .i64)), (.sl (.i .i64)), (.sl (.sl (.i .i64)))]⟩)]
def p_ref14_Build_4 : Pl := .z
noncomputable def l_ref14_Build_4 (N : Nat) : Nat → (List Int) × Int × Int × Int × Int × (List Int) × (List Int) × (List Int) × (List (List Int)) → Option ((List Int) × Int × Int × Int × Int × (List Int) × (List Int) × (List Int) × (List (List Int))) := loopF (exC T (ct_ref14_Build N) N (codeAt [1, 1, 1, 1, 1, 0, 1, 0, 0, 1, 0, 0, 1, 0, 1, 0, 0, 1, 0, 0, 1, 0, 0, 0] (bodyOf Try.f25))) 94 i_ref14_Build_4 o_ref14_Build_4 p_ref14_Build_4
def i_ref14_Build_3 : PS := ⟨[(1, .h (.sl (.i .i64))), (4, .k (.pt 900 0)), (6, .h (.i .i64)), (8, .k (.pt 901 0)), (9, .h (.i .i64)), (10, .k (.ow 904)), (11, .h (.i .i64))], [(900, .box 35 [.k .nil, .k .nil, .k .nil]), (901, .box 35 [.k (.ow 902), .k (.ow 903), .k (.ow 905)]), (904, .arr 3 (.i .i64) true), (902, .arr 3 (.i .i64) true), (903, .arr 3 (.i .i64) true), (905, .arr 22 (.sl (.i .i64)) true)], [(.sl (.i .i64)), (.i .i64), (.i .i64), (.i .i64), (.sl (.i .i64)), (.sl (.i .i64)), (.sl (.i .i64)), (.sl (.sl (.i .i64)))]⟩
def o_ref14_Build_3 : List (Exit × PS) := [((.exit 4), ⟨[(1, .h (.sl (.i .i64))), (4, .k (.pt 900 0)), (6, .h (.i .i64)), (8, .k (.pt 901 0)), (9, .h (.i .i64)), (10, .k (.ow 902))], [(900, .box 35 [.k .nil, .k .nil, .k .nil]), (901, .box 35 [.k (.ow 903), .k (.ow 904), .k (.ow 905)]), (902, .arr 3 (.i .i64) true), (903, .arr 3 (.i .i64) true), (904, .arr 3 (.i .i64) true), (905, .arr 22 (.sl (.i .i64)) true)], [(.sl (.i .i64)), (.i .i64), (.i .i64), (.sl (.i .i64)), (.sl (.i .i64)), (.sl (.i .i64)), (.sl (.sl (.i .i64)))]⟩)]
def p_ref14_Build_3 : Pl := (.n .z (.n (.n (.n .z (.n (.n (.loop i_ref14_Build_4 o_ref14_Build_4 p_ref14_Build_4) .z) .z)) .z) .z))
noncomputable def l_ref14_Build_3 (N : Nat) : Nat → (List Int) × Int × Int × Int × (List Int) × (List Int) × (List Int) × (List (List Int)) → Option ((List Int) × Int × Int × (List Int) × (List Int) × (List Int) × (List (List Int))) := loopF (exC T (ct_ref14_Build N) N (codeAt [1, 1, 1, 1, 1, 0, 1, 0, 0, 1, 0, 0, 1, 0, 1, 0, 0] (bodyOf Try.f25))) 94 i_ref14_Build_3 o_ref14_Build_3 p_ref14_Build_3
def i_ref14_Build_2 : PS := ⟨[(1, .h (.sl (.i .i64))), (4, .k (.pt 900 0)), (6, .h (.i .i64)), (8, .k (.pt 901 0)), (9, .h (.i .i64))], [(900, .box 35 [.k .nil, .k .nil, .k .nil]), (901, .box 35 [.k (.ow 902), .k (.ow 903), .k (.ow 904)]), (902, .arr 3 (.i .i64) true), (903, .arr 3 (.i .i64) true), (904, .arr 22 (.sl (.i .i64)) true)], [(.sl (.i .i64)), (.i .i64), (.i .i64), (.sl (.i .i64)), (.sl (.i .i64)), (.sl (.sl (.i .i64)))]⟩
def o_ref14_Build_2 : List (Exit × PS) := [((.exit 2), ⟨[(4, .k (.pt 900 0)), (8, .k (.pt 901 0))], [(900, .box 35 [.k .nil, .k .nil, .k .nil]), (901, .box 35 [.k (.ow 902), .k (.ow 903), .k (.ow 904)]), (902, .arr 3 (.i .i64) true), (903, .arr 3 (.i .i64) true), (904, .arr 22 (.sl (.i .i64)) true)], [(.sl (.i .i64)), (.sl (.i .i64)), (.sl (.sl (.i .i64)))]⟩)]
def p_ref14_Build_2 : Pl := (.n .z (.n (.n (.n .z (.n (.n .z (.n (.loop i_ref14_Build_3 o_ref14_Build_3 p_ref14_Build_3) .z)) .z)) .z) .z))
noncomputable def l_ref14_Build_2 (N : Nat) : Nat → (List Int) × Int × Int × (List Int) × (List Int) × (List (List Int)) → Option ((List Int) × (List Int) × (List (List Int))) := loopF (exC T (ct_ref14_Build N) N (codeAt [1, 1, 1, 1, 1, 0, 1, 0, 0] (bodyOf Try.f25))) 94 i_ref14_Build_2 o_ref14_Build_2 p_ref14_Build_2
def i_ref14_Build_1 : PS := ⟨[(0, .h (.sl (.i .i64))), (1, .h (.sl (.i .i64))), (4, .k (.pt 900 0)), (6, .h (.i .i64)), (7, .h (.i .i64))], [(900, .box 35 [.k .nil, .k .nil, .k .nil])], [(.sl (.i .i64)), (.sl (.i .i64)), (.i .i64), (.i .i64)]⟩
def o_ref14_Build_1 : List (Exit × PS) := [((.exit 0), ⟨[(0, .h (.sl (.i .i64))), (1, .h (.sl (.i .i64))), (4, .k (.pt 900 0)), (6, .h (.i .i64))], [(900, .box 35 [.k .nil, .k .nil, .k .nil])], [(.sl (.i .i64)), (.sl (.i .i64)), (.i .i64)]⟩), (.ret, ⟨[(4, .k (.pt 900 0)), (5, .h (.i .i64))], [(900, .box 35 [.k .nil, .k .nil, .k .nil])], [(.i .i64)]⟩)]
def p_ref14_Build_1 : Pl := .z
noncomputable def l_ref14_Build_1 (N : Nat) : Nat → (List Int) × (List Int) × Int × Int → Option (((List Int) × (List Int) × Int) ⊕ (Int)) := loopF (exC T (ct_ref14_Build N) N (codeAt [1, 1, 1, 0, 1, 0, 0] (bodyOf Try.f25))) 94 i_ref14_Build_1 o_ref14_Build_1 p_ref14_Build_1
def p_ref14_Build : Pl := (.n .z (.n .z (.n .z (.n (.n .z (.n (.loop i_ref14_Build_1 o_ref14_Build_1 p_ref14_Build_1) .z)) (.n .z (.n (.n .z (.n (.loop i_ref14_Build_2 o_ref14_Build_2 p_ref14_Build_2) .z)) .z))))))
def r_ref14_Build : PS := ⟨[(4, .k (.pt 900 0)), (5, .h (.i .i64))], [(900, .box 35 [.h (.sl (.i .i64)), .h (.sl (.i .i64)), .h (.sl (.sl (.i .i64)))])], [(.i .i64), (.sl (.i .i64)), (.sl (.i .i64)), (.sl (.sl (.i .i64)))]⟩
noncomputable def m_ref14_Build (N : Nat) : (List Int) × (List Int) → Option (Int × (List Int) × (List Int) × (List (List Int))) := exF T ct_ref14_Build N (bodyOf Try.f25) 94 p_ref14_Build [.h (.sl (.i .i64)), .h (.sl (.i .i64))] [] [(.sl (.i .i64)), (.sl (.i .i64))] r_ref14_Build
noncomputable def c_ref14_Build (N : Nat) : Ctr := ⟨25, [.h (.sl (.i .i64)), .h (.sl (.i .i64))], [], [(.sl (.i .i64)), (.sl (.i .i64))], Tup r_ref14_Build.c, m_ref14_Build N, fun y _ k => k (resG T (mkPS 94 r_ref14_Build y) Try.f25.results.toList) (keepH' [] (mkPS 94 r_ref14_Build y).h), false, false⟩
theorem l_ref14_Build_4_s (N m : Nat) (heights : (List Int)) (n : Int) (i : Int) (h : Int) (k : Int) (l : (List Int)) (v902 : (List Int)) (v903 : (List Int)) (v905 : (List (List Int))) : l_ref14_Build_4 N (m + 1) (heights, n, i, h, k, l, v902, v903, v905) = obind (remI (IntKind.wrap .i64 (i + k)) n) fun z1 =>
  obind (nthI heights z1) fun z2 =>
  cond (decide (z2 ≤ h))
   ((l_ref14_Build_4 N m (heights, (n, (i, (h, ((IntKind.wrap .i64 (k + (1 : Int))), (l, (v902, (v903, v905))))))))))
   (some (heights, (n, (i, (h, (k, (l, (v902, (v903, v905))))))))) := by kernel_rfl
theorem l_ref14_Build_3_s (N m : Nat) (heights : (List Int)) (n : Int) (i : Int) (h : Int) (l : (List Int)) (v902 : (List Int)) (v903 : (List Int)) (v905 : (List (List Int))) : l_ref14_Build_3 N (m + 1) (heights, n, i, h, l, v902, v903, v905) = obind (nthI heights i) fun z1 =>
  cond (decide (h < z1))
   (obind (l_ref14_Build_4 N N (heights, (n, (i, (h, ((1 : Int), (l, (v902, (v903, v905))))))))) fun z2 =>
    obind (remI (IntKind.wrap .i64 (z2.2.2.1 + z2.2.2.2.2.1)) z2.2.1) fun z3 =>
    obind (appI (8 : Nat) z2.2.2.2.2.2.1 [z3]) fun z4 =>
    (l_ref14_Build_3 N m (z2.1, (z2.2.1, (z2.2.2.1, ((IntKind.wrap .i64 (z2.2.2.2.1 + (1 : Int))), (z4, (z2.2.2.2.2.2.2.1, (z2.2.2.2.2.2.2.2.1, z2.2.2.2.2.2.2.2.2)))))))))
   (some (heights, (n, (i, (l, (v902, (v903, v905))))))) := by kernel_rfl
theorem l_ref14_Build_2_s (N m : Nat) (heights : (List Int)) (n : Int) (i : Int) (v902 : (List Int)) (v903 : (List Int)) (v904 : (List (List Int))) : l_ref14_Build_2 N (m + 1) (heights, n, i, v902, v903, v904) = cond (decide (i < n))
   (obind (l_ref14_Build_3 N N (heights, (n, (i, ((0 : Int), ([], (v902, (v903, v904)))))))) fun z1 =>
    obind (appI (24 : Nat) z1.2.2.2.2.2.2 [z1.2.2.2.1]) fun z2 =>
    (l_ref14_Build_2 N m (z1.1, (z1.2.1, ((IntKind.wrap .i64 (z1.2.2.1 + (1 : Int))), (z1.2.2.2.2.1, (z1.2.2.2.2.2.1, z2)))))))
   (some (v902, (v903, v904))) := by kernel_rfl
theorem l_ref14_Build_1_s (N m : Nat) (tokens : (List Int)) (heights : (List Int)) (n : Int) (i : Int) : l_ref14_Build_1 N (m + 1) (tokens, heights, n, i) = cond (decide (i < n))
   (obind (nthI heights i) fun z1 =>
    cond (decide (z1 < (1 : Int)))
     (some (.inr (1 : Int)))
     (obind (nthI heights i) fun z2 =>
      cond (decide ((8 : Int) < z2))
       (some (.inr (1 : Int)))
       ((l_ref14_Build_1 N m (tokens, (heights, (n, (IntKind.wrap .i64 (i + (1 : Int))))))))))
   (some (.inl (tokens, (heights, n)))) := by kernel_rfl
theorem m_ref14_Build_eq (N : Nat) (tokens : (List Int)) (heights : (List Int)) : m_ref14_Build (N + 1) (tokens, heights) = obind (m_ref13_Right N tokens) fun z1 =>
  cond (!z1)
   (some ((1 : Int), ([], ([], []))))
   (cond (decide ((((List.length tokens) : Nat) : Int) = (0 : Int)))
     (some ((1 : Int), ([], ([], []))))
     (cond (!(decide ((((List.length heights) : Nat) : Int) = (((List.length tokens) : Nat) : Int))))
       (some ((1 : Int), ([], ([], []))))
       (obind (l_ref14_Build_1 N N (tokens, (heights, ((((List.length tokens) : Nat) : Int), (0 : Int))))) fun z2 =>
        (match z2 with
        | .inl zy3 => obind (appI (8 : Nat) [] zy3.1) fun z4 =>
          obind (appI (8 : Nat) [] zy3.2.1) fun z5 =>
          obind (l_ref14_Build_2 N N (zy3.2.1, (zy3.2.2, ((0 : Int), (z4, (z5, [])))))) fun z6 =>
          some ((0 : Int), (z6.1, (z6.2.1, z6.2.2)))
        | .inr zy7 => some (zy7, ([], ([], []))))))) := by kernel_rfl
theorem c_ref14_Build_ok (N : Nat) : (c_ref14_Build N).ok Try.prog := exF_ok (T := T) (CT := ct_ref14_Build) (N := N) (fun M => ⟨tOk, (ctAll_cons (c_ref13_Right_ok M) ctAll_nil), mixed, bwAll⟩) Try.func25 (by kernel_rfl) (by kernel_rfl) p_ref14_Build [.h (.sl (.i .i64)), .h (.sl (.i .i64))] [] [(.sl (.i .i64)), (.sl (.i .i64))] r_ref14_Build false false [] (by kernel_rfl) (fun y => by kernel_rfl) (fun _ => ⟨rfl, rfl⟩) (fun y => by kernel_rfl) (m_ref14_Build N) (fun x => by kernel_rfl)
noncomputable def ct_pool_Make (N : Nat) : List Ctr := []
def i_pool_Make_1 : PS := ⟨[(0, .h (.i .i64)), (2, .k (.pt 900 0)), (4, .k (.pt 901 0)), (16, .h (.i .i64)), (17, .h (.i .i64))], [(900, .box 24 [.k .nil, .k .nil]), (901, .box 24 [.k (.ow 902), .k (.ow 903)]), (902, .arr 3 (.i .i64) true), (903, .arr 3 (.i .i64) true)], [(.i .i64), (.i .i64), (.i .i64), (.sl (.i .i64)), (.sl (.i .i64))]⟩
def o_pool_Make_1 : List (Exit × PS) := [((.exit 0), ⟨[(2, .k (.pt 900 0)), (4, .k (.pt 901 0))], [(900, .box 24 [.k .nil, .k .nil]), (901, .box 24 [.k (.ow 902), .k (.ow 903)]), (902, .arr 3 (.i .i64) true), (903, .arr 3 (.i .i64) true)], [(.sl (.i .i64)), (.sl (.i .i64))]⟩)]
def p_pool_Make_1 : Pl := .z
noncomputable def l_pool_Make_1 (N : Nat) : Nat → Int × Int × Int × (List Int) × (List Int) → Option ((List Int) × (List Int)) := loopF (exC T (ct_pool_Make N) N (codeAt [1, 1, 1, 0, 1, 0, 0] (bodyOf Try.f55))) 31 i_pool_Make_1 o_pool_Make_1 p_pool_Make_1
def p_pool_Make : Pl := (.n .z (.n .z (.n .z (.n (.n .z (.n (.loop i_pool_Make_1 o_pool_Make_1 p_pool_Make_1) .z)) .z))))
def r_pool_Make : PS := ⟨[(2, .k (.pt 900 0)), (3, .h (.i .i64))], [(900, .box 24 [.h (.sl (.i .i64)), .h (.sl (.i .i64))])], [(.i .i64), (.sl (.i .i64)), (.sl (.i .i64))]⟩
noncomputable def m_pool_Make (N : Nat) : Int → Option (Int × (List Int) × (List Int)) := exF T ct_pool_Make N (bodyOf Try.f55) 31 p_pool_Make [.h (.i .i64)] [] [(.i .i64)] r_pool_Make
noncomputable def c_pool_Make (N : Nat) : Ctr := ⟨55, [.h (.i .i64)], [], [(.i .i64)], Tup r_pool_Make.c, m_pool_Make N, fun y _ k => k (resG T (mkPS 31 r_pool_Make y) Try.f55.results.toList) (keepH' [] (mkPS 31 r_pool_Make y).h), false, false⟩
theorem l_pool_Make_1_s (N m : Nat) (n : Int) (v16 : Int) (v17 : Int) (v902 : (List Int)) (v903 : (List Int)) : l_pool_Make_1 N (m + 1) (n, v16, v17, v902, v903) = cond (decide (v17 < v16))
   (obind (appI (8 : Nat) v903 [(IntKind.wrap .i64 ((IntKind.wrap .i64 (n - (1 : Int))) - v17))]) fun z1 =>
    (l_pool_Make_1 N m (n, (v16, ((IntKind.wrap .i64 (v17 + (1 : Int))), (v902, z1))))))
   (some (v902, v903)) := by kernel_rfl
theorem m_pool_Make_eq (N : Nat) (n : Int) : m_pool_Make (N + 1) (n) = cond (decide (n < (1 : Int)))
   (some ((1 : Int), ([], [])))
   (cond (decide ((1000 : Int) < n))
     (some ((1 : Int), ([], [])))
     (obind (makI n (8 : Nat)) fun z1 =>
      obind (l_pool_Make_1 N N (n, (n, ((0 : Int), ((List.replicate z1 (0 : Int)), []))))) fun z2 =>
      some ((0 : Int), (z2.1, z2.2)))) := by kernel_rfl
theorem c_pool_Make_ok (N : Nat) : (c_pool_Make N).ok Try.prog := exF_ok (T := T) (CT := ct_pool_Make) (N := N) (fun M => ⟨tOk, ctAll_nil, mixed, bwAll⟩) Try.func55 (by kernel_rfl) (by kernel_rfl) p_pool_Make [.h (.i .i64)] [] [(.i .i64)] r_pool_Make false false [] (by kernel_rfl) (fun y => by kernel_rfl) (fun _ => ⟨rfl, rfl⟩) (fun y => by kernel_rfl) (m_pool_Make N) (fun x => by kernel_rfl)
noncomputable def ct_store_Make (N : Nat) : List Ctr := [c_pool_Make N]
def p_store_Make : Pl := .z
def r_store_Make : PS := ⟨[(2, .k (.pt 900 0)), (3, .h (.i .i64))], [(900, .box 27 [.h (.sl (.i .i64)), .h (.sl (.i .i64)), .h (.sl (.pr (.i .i64) (.pr (.i .i64) (.sl (.pr (.i .i64) (.i .i64))))))])], [(.i .i64), (.sl (.i .i64)), (.sl (.i .i64)), (.sl (.pr (.i .i64) (.pr (.i .i64) (.sl (.pr (.i .i64) (.i .i64))))))]⟩
noncomputable def m_store_Make (N : Nat) : Int → Option (Int × (List Int) × (List Int) × (List (Int × (Int × (List (Int × Int)))))) := exF T ct_store_Make N (bodyOf Try.f23) 19 p_store_Make [.h (.i .i64)] [] [(.i .i64)] r_store_Make
noncomputable def c_store_Make (N : Nat) : Ctr := ⟨23, [.h (.i .i64)], [], [(.i .i64)], Tup r_store_Make.c, m_store_Make N, fun y _ k => k (resG T (mkPS 19 r_store_Make y) Try.f23.results.toList) (keepH' [] (mkPS 19 r_store_Make y).h), false, false⟩
theorem m_store_Make_eq (N : Nat) (n : Int) : m_store_Make (N + 1) (n) = obind (m_pool_Make N n) fun z1 =>
  cond (!(decide (z1.1 = (0 : Int))))
   (some (z1.1, ([], ([], []))))
   (obind (makI n (40 : Nat)) fun z2 =>
    some ((0 : Int), (z1.2.1, (z1.2.2, (List.replicate z2 ((0 : Int), ((0 : Int), []))))))) := by kernel_rfl
theorem c_store_Make_ok (N : Nat) : (c_store_Make N).ok Try.prog := exF_ok (T := T) (CT := ct_store_Make) (N := N) (fun M => ⟨tOk, (ctAll_cons (c_pool_Make_ok M) ctAll_nil), mixed, bwAll⟩) Try.func23 (by kernel_rfl) (by kernel_rfl) p_store_Make [.h (.i .i64)] [] [(.i .i64)] r_store_Make false false [] (by kernel_rfl) (fun y => by kernel_rfl) (fun _ => ⟨rfl, rfl⟩) (fun y => by kernel_rfl) (m_store_Make N) (fun x => by kernel_rfl)
noncomputable def ct_slices_Min_Lint_int (N : Nat) : List Ctr := []
def i_slices_Min_Lint_int_1 : PS := ⟨[(0, .h (.sl (.i .i64))), (3, .h (.i .i64)), (4, .h (.i .i64))], [], [(.sl (.i .i64)), (.i .i64), (.i .i64)]⟩
def o_slices_Min_Lint_int_1 : List (Exit × PS) := [((.exit 0), ⟨[(3, .h (.i .i64))], [], [(.i .i64)]⟩)]
def p_slices_Min_Lint_int_1 : Pl := .z
noncomputable def l_slices_Min_Lint_int_1 (N : Nat) : Nat → (List Int) × Int × Int → Option (Int) := loopF (exC T (ct_slices_Min_Lint_int N) N (codeAt [1, 1, 1, 0, 1, 0, 0] (bodyOf Try.f71))) 25 i_slices_Min_Lint_int_1 o_slices_Min_Lint_int_1 p_slices_Min_Lint_int_1
def p_slices_Min_Lint_int : Pl := (.n .z (.n .z (.n .z (.n (.n .z (.n (.loop i_slices_Min_Lint_int_1 o_slices_Min_Lint_int_1 p_slices_Min_Lint_int_1) .z)) .z))))
def r_slices_Min_Lint_int : PS := ⟨[(2, .h (.i .i64))], [], [(.i .i64)]⟩
noncomputable def m_slices_Min_Lint_int (N : Nat) : (List Int) → Option (Int) := exF T ct_slices_Min_Lint_int N (bodyOf Try.f71) 25 p_slices_Min_Lint_int [.h (.sl (.i .i64))] [] [(.sl (.i .i64))] r_slices_Min_Lint_int
noncomputable def c_slices_Min_Lint_int (N : Nat) : Ctr := ⟨71, [.h (.sl (.i .i64))], [], [(.sl (.i .i64))], Tup r_slices_Min_Lint_int.c, m_slices_Min_Lint_int N, fun y _ k => k (resG T (mkPS 25 r_slices_Min_Lint_int y) Try.f71.results.toList) (keepH' [] (mkPS 25 r_slices_Min_Lint_int y).h), false, true⟩
theorem l_slices_Min_Lint_int_1_s (N m : Nat) (x : (List Int)) (v3 : Int) (i : Int) : l_slices_Min_Lint_int_1 N (m + 1) (x, v3, i) = cond (decide (i < (((List.length x) : Nat) : Int)))
   (obind (nthI x i) fun z1 =>
    (l_slices_Min_Lint_int_1 N m (x, ((if (z1 < v3) then z1 else v3), (IntKind.wrap .i64 (i + (1 : Int)))))))
   (some v3) := by kernel_rfl
theorem m_slices_Min_Lint_int_eq (N : Nat) (x : (List Int)) : m_slices_Min_Lint_int (N + 1) (x) = cond (decide ((((List.length x) : Nat) : Int) < (1 : Int)))
   (none)
   (obind (nthI x (0 : Int)) fun z1 =>
    obind (l_slices_Min_Lint_int_1 N N (x, (z1, (1 : Int)))) fun z2 =>
    some z2) := by kernel_rfl
theorem c_slices_Min_Lint_int_ok (N : Nat) : (c_slices_Min_Lint_int N).ok Try.prog := exF_ok (T := T) (CT := ct_slices_Min_Lint_int) (N := N) (fun M => ⟨tOk, ctAll_nil, mixed, bwAll⟩) Try.func71 (by kernel_rfl) (by kernel_rfl) p_slices_Min_Lint_int [.h (.sl (.i .i64))] [] [(.sl (.i .i64))] r_slices_Min_Lint_int false true [] (by kernel_rfl) (fun y => by kernel_rfl) (fun _ => ⟨rfl, rfl⟩) (fun y => by kernel_rfl) (m_slices_Min_Lint_int N) (fun x => by kernel_rfl)
noncomputable def ct_slices_Max_Lint_int (N : Nat) : List Ctr := []
def i_slices_Max_Lint_int_1 : PS := ⟨[(0, .h (.sl (.i .i64))), (3, .h (.i .i64)), (4, .h (.i .i64))], [], [(.sl (.i .i64)), (.i .i64), (.i .i64)]⟩
def o_slices_Max_Lint_int_1 : List (Exit × PS) := [((.exit 0), ⟨[(3, .h (.i .i64))], [], [(.i .i64)]⟩)]
def p_slices_Max_Lint_int_1 : Pl := .z
noncomputable def l_slices_Max_Lint_int_1 (N : Nat) : Nat → (List Int) × Int × Int → Option (Int) := loopF (exC T (ct_slices_Max_Lint_int N) N (codeAt [1, 1, 1, 0, 1, 0, 0] (bodyOf Try.f72))) 25 i_slices_Max_Lint_int_1 o_slices_Max_Lint_int_1 p_slices_Max_Lint_int_1
def p_slices_Max_Lint_int : Pl := (.n .z (.n .z (.n .z (.n (.n .z (.n (.loop i_slices_Max_Lint_int_1 o_slices_Max_Lint_int_1 p_slices_Max_Lint_int_1) .z)) .z))))
def r_slices_Max_Lint_int : PS := ⟨[(2, .h (.i .i64))], [], [(.i .i64)]⟩
noncomputable def m_slices_Max_Lint_int (N : Nat) : (List Int) → Option (Int) := exF T ct_slices_Max_Lint_int N (bodyOf Try.f72) 25 p_slices_Max_Lint_int [.h (.sl (.i .i64))] [] [(.sl (.i .i64))] r_slices_Max_Lint_int
noncomputable def c_slices_Max_Lint_int (N : Nat) : Ctr := ⟨72, [.h (.sl (.i .i64))], [], [(.sl (.i .i64))], Tup r_slices_Max_Lint_int.c, m_slices_Max_Lint_int N, fun y _ k => k (resG T (mkPS 25 r_slices_Max_Lint_int y) Try.f72.results.toList) (keepH' [] (mkPS 25 r_slices_Max_Lint_int y).h), false, true⟩
theorem l_slices_Max_Lint_int_1_s (N m : Nat) (x : (List Int)) (v3 : Int) (i : Int) : l_slices_Max_Lint_int_1 N (m + 1) (x, v3, i) = cond (decide (i < (((List.length x) : Nat) : Int)))
   (obind (nthI x i) fun z1 =>
    (l_slices_Max_Lint_int_1 N m (x, ((if (z1 > v3) then z1 else v3), (IntKind.wrap .i64 (i + (1 : Int)))))))
   (some v3) := by kernel_rfl
theorem m_slices_Max_Lint_int_eq (N : Nat) (x : (List Int)) : m_slices_Max_Lint_int (N + 1) (x) = cond (decide ((((List.length x) : Nat) : Int) < (1 : Int)))
   (none)
   (obind (nthI x (0 : Int)) fun z1 =>
    obind (l_slices_Max_Lint_int_1 N N (x, (z1, (1 : Int)))) fun z2 =>
    some z2) := by kernel_rfl
theorem c_slices_Max_Lint_int_ok (N : Nat) : (c_slices_Max_Lint_int N).ok Try.prog := exF_ok (T := T) (CT := ct_slices_Max_Lint_int) (N := N) (fun M => ⟨tOk, ctAll_nil, mixed, bwAll⟩) Try.func72 (by kernel_rfl) (by kernel_rfl) p_slices_Max_Lint_int [.h (.sl (.i .i64))] [] [(.sl (.i .i64))] r_slices_Max_Lint_int false true [] (by kernel_rfl) (fun y => by kernel_rfl) (fun _ => ⟨rfl, rfl⟩) (fun y => by kernel_rfl) (m_slices_Max_Lint_int N) (fun x => by kernel_rfl)
noncomputable def ct_pool_Right (N : Nat) : List Ctr := [c_slices_Min_Lint_int N, c_slices_Max_Lint_int N]
def i_pool_Right_1 : PS := ⟨[(3, .h (.i .i64)), (4, .k (.mp 900)), (30, .h (.sl (.i .i64))), (31, .h (.i .i64)), (32, .h (.i .i64))], [(900, .mp (.int .i64) (.i .i64) (.i .i64))], [(.i .i64), (.sl (.i .i64)), (.i .i64), (.i .i64), (.sl (.pr (.i .i64) (.i .i64)))]⟩
def o_pool_Right_1 : List (Exit × PS) := [((.exit 0), ⟨[], [], []⟩), (.ret, ⟨[(2, .h .b)], [], [.b]⟩)]
def p_pool_Right_1 : Pl := .z
noncomputable def l_pool_Right_1 (N : Nat) : Nat → Int × (List Int) × Int × Int × (List (Int × Int)) → Option ((Unit) ⊕ (Bool)) := loopF (exC T (ct_pool_Right N) N (codeAt [1, 1, 1, 1, 0, 1, 0, 0] (bodyOf Try.f46))) 54 i_pool_Right_1 o_pool_Right_1 p_pool_Right_1
def p_pool_Right : Pl := (.n .z (.n .z (.n .z (.n .z (.n (.n .z (.n (.loop i_pool_Right_1 o_pool_Right_1 p_pool_Right_1) .z)) .z)))))
def r_pool_Right : PS := ⟨[(2, .h .b)], [], [.b]⟩
noncomputable def m_pool_Right (N : Nat) : (List Int) × (List Int) → Option (Bool) := exF T ct_pool_Right N (bodyOf Try.f46) 54 p_pool_Right [.ag [.h (.sl (.i .i64)), .h (.sl (.i .i64))]] [] [(.sl (.i .i64)), (.sl (.i .i64))] r_pool_Right
noncomputable def c_pool_Right (N : Nat) : Ctr := ⟨46, [.ag [.h (.sl (.i .i64)), .h (.sl (.i .i64))]], [], [(.sl (.i .i64)), (.sl (.i .i64))], Tup r_pool_Right.c, m_pool_Right N, fun y _ k => k (resG T (mkPS 54 r_pool_Right y) Try.f46.results.toList) (keepH' [] (mkPS 54 r_pool_Right y).h), false, true⟩
theorem l_pool_Right_1_s (N m : Nat) (n : Int) (v30 : (List Int)) (v31 : Int) (v32 : Int) (met : (List (Int × Int))) : l_pool_Right_1 N (m + 1) (n, v30, v31, v32, met) = cond (decide (v32 < v31))
   (obind (nthI v30 v32) fun z1 =>
    cond (decide (z1 < (0 : Int)))
     (some (.inr false))
     (cond (decide (n ≤ z1))
       (some (.inr false))
       (cond (decide ((1 : Int) < (Option.getD (mget (.i .i64) (mput (.i .i64) met z1 (IntKind.wrap .i64 ((Option.getD (mget (.i .i64) met z1) (0 : Int)) + (1 : Int)))) z1) (0 : Int))))
         (some (.inr false))
         ((l_pool_Right_1 N m (n, (v30, (v31, ((IntKind.wrap .i64 (v32 + (1 : Int))), (mput (.i .i64) met z1 (IntKind.wrap .i64 ((Option.getD (mget (.i .i64) met z1) (0 : Int)) + (1 : Int)))))))))))))
   (some (.inl ())) := by kernel_rfl
theorem m_pool_Right_eq (N : Nat) (p : (List Int)) (p2 : (List Int)) : m_pool_Right (N + 1) (p, p2) = cond (decide ((((List.length p) : Nat) : Int) = (0 : Int)))
   (some false)
   (cond (decide ((1000 : Int) < (((List.length p) : Nat) : Int)))
     (some false)
     (obind (m_slices_Min_Lint_int N p) fun z1 =>
      cond (decide (z1 < (0 : Int)))
       (some false)
       (obind (m_slices_Max_Lint_int N p) fun z2 =>
        cond (decide ((1073741824 : Int) < z2))
         (some false)
         (obind (l_pool_Right_1 N N ((((List.length p) : Nat) : Int), (p2, ((((List.length p2) : Nat) : Int), ((0 : Int), []))))) fun z3 =>
          (match z3 with
          | .inl zy4 => some true
          | .inr zy5 => some zy5))))) := by kernel_rfl
theorem c_pool_Right_ok (N : Nat) : (c_pool_Right N).ok Try.prog := exF_ok (T := T) (CT := ct_pool_Right) (N := N) (fun M => ⟨tOk, (ctAll_cons (c_slices_Min_Lint_int_ok M) (ctAll_cons (c_slices_Max_Lint_int_ok M) ctAll_nil)), mixed, bwAll⟩) Try.func46 (by kernel_rfl) (by kernel_rfl) p_pool_Right [.ag [.h (.sl (.i .i64)), .h (.sl (.i .i64))]] [] [(.sl (.i .i64)), (.sl (.i .i64))] r_pool_Right false true [] (by kernel_rfl) (fun y => by kernel_rfl) (fun _ => ⟨rfl, rfl⟩) (fun y => by kernel_rfl) (m_pool_Right N) (fun x => by kernel_rfl)
noncomputable def ct_slices_Index_Lint_int (N : Nat) : List Ctr := []
def i_slices_Index_Lint_int_1 : PS := ⟨[(0, .h (.sl (.i .i64))), (1, .h (.i .i64)), (7, .h (.i .i64)), (8, .h (.i .i64))], [], [(.sl (.i .i64)), (.i .i64), (.i .i64), (.i .i64)]⟩
def o_slices_Index_Lint_int_1 : List (Exit × PS) := [((.exit 0), ⟨[], [], []⟩), (.ret, ⟨[(4, .h (.i .i64))], [], [(.i .i64)]⟩)]
def p_slices_Index_Lint_int_1 : Pl := .z
noncomputable def l_slices_Index_Lint_int_1 (N : Nat) : Nat → (List Int) × Int × Int × Int → Option ((Unit) ⊕ (Int)) := loopF (exC T (ct_slices_Index_Lint_int N) N (codeAt [1, 0, 1, 0, 0] (bodyOf Try.f73))) 19 i_slices_Index_Lint_int_1 o_slices_Index_Lint_int_1 p_slices_Index_Lint_int_1
def p_slices_Index_Lint_int : Pl := (.n .z (.n (.n .z (.n (.loop i_slices_Index_Lint_int_1 o_slices_Index_Lint_int_1 p_slices_Index_Lint_int_1) .z)) .z))
def r_slices_Index_Lint_int : PS := ⟨[(4, .h (.i .i64))], [], [(.i .i64)]⟩
noncomputable def m_slices_Index_Lint_int (N : Nat) : (List Int) × Int → Option (Int) := exF T ct_slices_Index_Lint_int N (bodyOf Try.f73) 19 p_slices_Index_Lint_int [.h (.sl (.i .i64)), .h (.i .i64)] [] [(.sl (.i .i64)), (.i .i64)] r_slices_Index_Lint_int
noncomputable def c_slices_Index_Lint_int (N : Nat) : Ctr := ⟨73, [.h (.sl (.i .i64)), .h (.i .i64)], [], [(.sl (.i .i64)), (.i .i64)], Tup r_slices_Index_Lint_int.c, m_slices_Index_Lint_int N, fun y _ k => k (resG T (mkPS 19 r_slices_Index_Lint_int y) Try.f73.results.toList) (keepH' [] (mkPS 19 r_slices_Index_Lint_int y).h), false, true⟩
theorem l_slices_Index_Lint_int_1_s (N m : Nat) (s : (List Int)) (v : Int) (v7 : Int) (v8 : Int) : l_slices_Index_Lint_int_1 N (m + 1) (s, v, v7, v8) = cond (decide (v8 < v7))
   (obind (nthI s v8) fun z1 =>
    cond (decide (v = z1))
     (some (.inr v8))
     ((l_slices_Index_Lint_int_1 N m (s, (v, (v7, (IntKind.wrap .i64 (v8 + (1 : Int)))))))))
   (some (.inl ())) := by kernel_rfl
theorem m_slices_Index_Lint_int_eq (N : Nat) (s : (List Int)) (v : Int) : m_slices_Index_Lint_int (N + 1) (s, v) = obind (l_slices_Index_Lint_int_1 N N (s, (v, ((((List.length s) : Nat) : Int), (0 : Int))))) fun z1 =>
  (match z1 with
  | .inl zy2 => some (-(1 : Int))
  | .inr zy3 => some zy3) := by kernel_rfl
theorem c_slices_Index_Lint_int_ok (N : Nat) : (c_slices_Index_Lint_int N).ok Try.prog := exF_ok (T := T) (CT := ct_slices_Index_Lint_int) (N := N) (fun M => ⟨tOk, ctAll_nil, mixed, bwAll⟩) Try.func73 (by kernel_rfl) (by kernel_rfl) p_slices_Index_Lint_int [.h (.sl (.i .i64)), .h (.i .i64)] [] [(.sl (.i .i64)), (.i .i64)] r_slices_Index_Lint_int false true [] (by kernel_rfl) (fun y => by kernel_rfl) (fun _ => ⟨rfl, rfl⟩) (fun y => by kernel_rfl) (m_slices_Index_Lint_int N) (fun x => by kernel_rfl)
noncomputable def ct_slices_Contains_Lint_int (N : Nat) : List Ctr := [c_slices_Index_Lint_int N]
def p_slices_Contains_Lint_int : Pl := .z
def r_slices_Contains_Lint_int : PS := ⟨[(4, .h .b)], [], [.b]⟩
noncomputable def m_slices_Contains_Lint_int (N : Nat) : (List Int) × Int → Option (Bool) := exF T ct_slices_Contains_Lint_int N (bodyOf Try.f47) 9 p_slices_Contains_Lint_int [.h (.sl (.i .i64)), .h (.i .i64)] [] [(.sl (.i .i64)), (.i .i64)] r_slices_Contains_Lint_int
noncomputable def c_slices_Contains_Lint_int (N : Nat) : Ctr := ⟨47, [.h (.sl (.i .i64)), .h (.i .i64)], [], [(.sl (.i .i64)), (.i .i64)], Tup r_slices_Contains_Lint_int.c, m_slices_Contains_Lint_int N, fun y _ k => k (resG T (mkPS 9 r_slices_Contains_Lint_int y) Try.f47.results.toList) (keepH' [] (mkPS 9 r_slices_Contains_Lint_int y).h), false, true⟩
theorem m_slices_Contains_Lint_int_eq (N : Nat) (s : (List Int)) (v : Int) : m_slices_Contains_Lint_int (N + 1) (s, v) = obind (m_slices_Index_Lint_int N (s, v)) fun z1 =>
  some (decide ((0 : Int) ≤ z1)) := by kernel_rfl
theorem c_slices_Contains_Lint_int_ok (N : Nat) : (c_slices_Contains_Lint_int N).ok Try.prog := exF_ok (T := T) (CT := ct_slices_Contains_Lint_int) (N := N) (fun M => ⟨tOk, (ctAll_cons (c_slices_Index_Lint_int_ok M) ctAll_nil), mixed, bwAll⟩) Try.func47 (by kernel_rfl) (by kernel_rfl) p_slices_Contains_Lint_int [.h (.sl (.i .i64)), .h (.i .i64)] [] [(.sl (.i .i64)), (.i .i64)] r_slices_Contains_Lint_int false true [] (by kernel_rfl) (fun y => by kernel_rfl) (fun _ => ⟨rfl, rfl⟩) (fun y => by kernel_rfl) (m_slices_Contains_Lint_int N) (fun x => by kernel_rfl)
noncomputable def ct_store_empty (N : Nat) : List Ctr := []
def p_store_empty : Pl := .z
def r_store_empty : PS := ⟨[(2, .h .b)], [], [.b]⟩
noncomputable def m_store_empty (N : Nat) : Int × Int × (List (Int × Int)) → Option (Bool) := exF T ct_store_empty N (bodyOf Try.f48) 17 p_store_empty [.ag [.h (.i .i64), .h (.i .i64), .h (.sl (.pr (.i .i64) (.i .i64)))]] [] [(.i .i64), (.i .i64), (.sl (.pr (.i .i64) (.i .i64)))] r_store_empty
noncomputable def c_store_empty (N : Nat) : Ctr := ⟨48, [.ag [.h (.i .i64), .h (.i .i64), .h (.sl (.pr (.i .i64) (.i .i64)))]], [], [(.i .i64), (.i .i64), (.sl (.pr (.i .i64) (.i .i64)))], Tup r_store_empty.c, m_store_empty N, fun y _ k => k (resG T (mkPS 17 r_store_empty y) Try.f48.results.toList) (keepH' [] (mkPS 17 r_store_empty y).h), false, true⟩
theorem m_store_empty_eq (N : Nat) (x : Int) (x2 : Int) (x3 : (List (Int × Int))) : m_store_empty (N + 1) (x, x2, x3) = cond (decide (x = (0 : Int)))
   (cond (decide (x2 = (0 : Int)))
     (some (decide ((((List.length x3) : Nat) : Int) = (0 : Int))))
     (some false))
   (some false) := by kernel_rfl
theorem c_store_empty_ok (N : Nat) : (c_store_empty N).ok Try.prog := exF_ok (T := T) (CT := ct_store_empty) (N := N) (fun M => ⟨tOk, ctAll_nil, mixed, bwAll⟩) Try.func48 (by kernel_rfl) (by kernel_rfl) p_store_empty [.ag [.h (.i .i64), .h (.i .i64), .h (.sl (.pr (.i .i64) (.i .i64)))]] [] [(.i .i64), (.i .i64), (.sl (.pr (.i .i64) (.i .i64)))] r_store_empty false true [] (by kernel_rfl) (fun y => by kernel_rfl) (fun _ => ⟨rfl, rfl⟩) (fun y => by kernel_rfl) (m_store_empty N) (fun x => by kernel_rfl)
noncomputable def ct_pool_Good (N : Nat) : List Ctr := [c_pool_Right N, c_slices_Contains_Lint_int N]
def p_pool_Good : Pl := .z
def r_pool_Good : PS := ⟨[(4, .h .b)], [], [.b]⟩
noncomputable def m_pool_Good (N : Nat) : (List Int) × (List Int) × Int × Int → Option (Bool) := exF T ct_pool_Good N (bodyOf Try.f34) 39 p_pool_Good [.ag [.h (.sl (.i .i64)), .h (.sl (.i .i64))], .ag [.h (.i .i64), .h (.i .i64)]] [] [(.sl (.i .i64)), (.sl (.i .i64)), (.i .i64), (.i .i64)] r_pool_Good
noncomputable def c_pool_Good (N : Nat) : Ctr := ⟨34, [.ag [.h (.sl (.i .i64)), .h (.sl (.i .i64))], .ag [.h (.i .i64), .h (.i .i64)]], [], [(.sl (.i .i64)), (.sl (.i .i64)), (.i .i64), (.i .i64)], Tup r_pool_Good.c, m_pool_Good N, fun y _ k => k (resG T (mkPS 39 r_pool_Good y) Try.f34.results.toList) (keepH' [] (mkPS 39 r_pool_Good y).h), false, true⟩
theorem m_pool_Good_eq (N : Nat) (p : (List Int)) (p2 : (List Int)) (h : Int) (h2 : Int) : m_pool_Good (N + 1) (p, p2, h, h2) = obind (m_pool_Right N (p, p2)) fun z1 =>
  cond z1
   (cond (decide ((0 : Int) ≤ h))
     (cond (decide (h < (((List.length p) : Nat) : Int)))
       (obind (nthI p h) fun z2 =>
        cond (decide (z2 = h2))
         (obind (m_slices_Contains_Lint_int N (p2, h)) fun z3 =>
          some (!z3))
         (some false))
       (some false))
     (some false))
   (some false) := by kernel_rfl
theorem c_pool_Good_ok (N : Nat) : (c_pool_Good N).ok Try.prog := exF_ok (T := T) (CT := ct_pool_Good) (N := N) (fun M => ⟨tOk, (ctAll_cons (c_pool_Right_ok M) (ctAll_cons (c_slices_Contains_Lint_int_ok M) ctAll_nil)), mixed, bwAll⟩) Try.func34 (by kernel_rfl) (by kernel_rfl) p_pool_Good [.ag [.h (.sl (.i .i64)), .h (.sl (.i .i64))], .ag [.h (.i .i64), .h (.i .i64)]] [] [(.sl (.i .i64)), (.sl (.i .i64)), (.i .i64), (.i .i64)] r_pool_Good false true [] (by kernel_rfl) (fun y => by kernel_rfl) (fun _ => ⟨rfl, rfl⟩) (fun y => by kernel_rfl) (m_pool_Good N) (fun x => by kernel_rfl)
noncomputable def ct_store_fullF1_phh (N : Nat) : List Ctr := [c_pool_Good N]
def p_store_fullF1_phh : Pl := .z
def r_store_fullF1_phh : PS := ⟨[(3, .h .b)], [(4294967296, .box 24 [.h (.sl (.i .i64)), .h (.sl (.i .i64))])], [.b, (.sl (.i .i64)), (.sl (.i .i64))]⟩
noncomputable def m_store_fullF1_phh (N : Nat) : Int × Int × (List Int) × (List Int) → Option (Bool × (List Int) × (List Int)) := exF T ct_store_fullF1_phh N (bodyOf Try.f74) 8 p_store_fullF1_phh [.ag [.h (.i .i64), .h (.i .i64)], .k (.pt 4294967296 0)] [(4294967296, .box 24 [.h (.sl (.i .i64)), .h (.sl (.i .i64))])] [(.i .i64), (.i .i64), (.sl (.i .i64)), (.sl (.i .i64))] r_store_fullF1_phh
noncomputable def c_store_fullF1_phh (N : Nat) : Ctr := ⟨74, [.ag [.h (.i .i64), .h (.i .i64)], .k (.pt 4294967296 0)], [(4294967296, .box 24 [.h (.sl (.i .i64)), .h (.sl (.i .i64))])], [(.i .i64), (.i .i64), (.sl (.i .i64)), (.sl (.i .i64))], Tup r_store_fullF1_phh.c, m_store_fullF1_phh N, fun y _ k => k (resG T (mkPS 8 r_store_fullF1_phh y) Try.f74.results.toList) (keepH' [4294967296] (mkPS 8 r_store_fullF1_phh y).h), true, false⟩
theorem m_store_fullF1_phh_eq (N : Nat) (h : Int) (h2 : Int) (v4294967296 : (List Int)) (v42949672962 : (List Int)) : m_store_fullF1_phh (N + 1) (h, h2, v4294967296, v42949672962) = obind (m_pool_Good N (v4294967296, (v42949672962, (h, h2)))) fun z1 =>
  some ((!z1), (v4294967296, v42949672962)) := by kernel_rfl
theorem c_store_fullF1_phh_ok (N : Nat) : (c_store_fullF1_phh N).ok Try.prog := exF_ok (T := T) (CT := ct_store_fullF1_phh) (N := N) (fun M => ⟨tOk, (ctAll_cons (c_pool_Good_ok M) ctAll_nil), mixed, bwAll⟩) Try.func74 (by kernel_rfl) (by kernel_rfl) p_store_fullF1_phh [.ag [.h (.i .i64), .h (.i .i64)], .k (.pt 4294967296 0)] [(4294967296, .box 24 [.h (.sl (.i .i64)), .h (.sl (.i .i64))])] [(.i .i64), (.i .i64), (.sl (.i .i64)), (.sl (.i .i64))] r_store_fullF1_phh true false [4294967296] (by kernel_rfl) (fun y => by kernel_rfl) (fun h => by cases h) (fun y => by kernel_rfl) (m_store_fullF1_phh N) (fun x => by kernel_rfl)
noncomputable def ct_slices_IndexFunc_Lapi_Handle_api_Handle_store_fullF1_f74phh (N : Nat) : List Ctr := [c_store_fullF1_phh N]
def i_slices_IndexFunc_Lapi_Handle_api_Handle_store_fullF1_f74phh_1 : PS := ⟨[(0, .h (.sl (.pr (.i .i64) (.i .i64)))), (1, .cl (.func 74) [] [.k (.pt 4294967296 0)]), (7, .h (.i .i64)), (8, .h (.i .i64))], [(4294967296, .box 24 [.h (.sl (.i .i64)), .h (.sl (.i .i64))])], [(.sl (.pr (.i .i64) (.i .i64))), (.i .i64), (.i .i64), (.sl (.i .i64)), (.sl (.i .i64))]⟩
def o_slices_IndexFunc_Lapi_Handle_api_Handle_store_fullF1_f74phh_1 : List (Exit × PS) := [((.exit 0), ⟨[], [(4294967296, .box 24 [.h (.sl (.i .i64)), .h (.sl (.i .i64))])], [(.sl (.i .i64)), (.sl (.i .i64))]⟩), (.ret, ⟨[(4, .h (.i .i64))], [(4294967296, .box 24 [.h (.sl (.i .i64)), .h (.sl (.i .i64))])], [(.i .i64), (.sl (.i .i64)), (.sl (.i .i64))]⟩)]
def p_slices_IndexFunc_Lapi_Handle_api_Handle_store_fullF1_f74phh_1 : Pl := .z
noncomputable def l_slices_IndexFunc_Lapi_Handle_api_Handle_store_fullF1_f74phh_1 (N : Nat) : Nat → (List (Int × Int)) × Int × Int × (List Int) × (List Int) → Option (((List Int) × (List Int)) ⊕ (Int × (List Int) × (List Int))) := loopF (exC T (ct_slices_IndexFunc_Lapi_Handle_api_Handle_store_fullF1_f74phh N) N (codeAt [1, 0, 1, 0, 0] (bodyOf Try.f91))) 19 i_slices_IndexFunc_Lapi_Handle_api_Handle_store_fullF1_f74phh_1 o_slices_IndexFunc_Lapi_Handle_api_Handle_store_fullF1_f74phh_1 p_slices_IndexFunc_Lapi_Handle_api_Handle_store_fullF1_f74phh_1
def p_slices_IndexFunc_Lapi_Handle_api_Handle_store_fullF1_f74phh : Pl := (.n .z (.n (.n .z (.n (.loop i_slices_IndexFunc_Lapi_Handle_api_Handle_store_fullF1_f74phh_1 o_slices_IndexFunc_Lapi_Handle_api_Handle_store_fullF1_f74phh_1 p_slices_IndexFunc_Lapi_Handle_api_Handle_store_fullF1_f74phh_1) .z)) .z))
def r_slices_IndexFunc_Lapi_Handle_api_Handle_store_fullF1_f74phh : PS := ⟨[(4, .h (.i .i64))], [(4294967296, .box 24 [.h (.sl (.i .i64)), .h (.sl (.i .i64))])], [(.i .i64), (.sl (.i .i64)), (.sl (.i .i64))]⟩
noncomputable def m_slices_IndexFunc_Lapi_Handle_api_Handle_store_fullF1_f74phh (N : Nat) : (List (Int × Int)) × (List Int) × (List Int) → Option (Int × (List Int) × (List Int)) := exF T ct_slices_IndexFunc_Lapi_Handle_api_Handle_store_fullF1_f74phh N (bodyOf Try.f91) 19 p_slices_IndexFunc_Lapi_Handle_api_Handle_store_fullF1_f74phh [.h (.sl (.pr (.i .i64) (.i .i64))), .cl (.func 74) [] [.k (.pt 4294967296 0)]] [(4294967296, .box 24 [.h (.sl (.i .i64)), .h (.sl (.i .i64))])] [(.sl (.pr (.i .i64) (.i .i64))), (.sl (.i .i64)), (.sl (.i .i64))] r_slices_IndexFunc_Lapi_Handle_api_Handle_store_fullF1_f74phh
noncomputable def c_slices_IndexFunc_Lapi_Handle_api_Handle_store_fullF1_f74phh (N : Nat) : Ctr := ⟨91, [.h (.sl (.pr (.i .i64) (.i .i64))), .cl (.func 74) [] [.k (.pt 4294967296 0)]], [(4294967296, .box 24 [.h (.sl (.i .i64)), .h (.sl (.i .i64))])], [(.sl (.pr (.i .i64) (.i .i64))), (.sl (.i .i64)), (.sl (.i .i64))], Tup r_slices_IndexFunc_Lapi_Handle_api_Handle_store_fullF1_f74phh.c, m_slices_IndexFunc_Lapi_Handle_api_Handle_store_fullF1_f74phh N, fun y _ k => k (resG T (mkPS 19 r_slices_IndexFunc_Lapi_Handle_api_Handle_store_fullF1_f74phh y) Try.f91.results.toList) (keepH' [4294967296] (mkPS 19 r_slices_IndexFunc_Lapi_Handle_api_Handle_store_fullF1_f74phh y).h), true, false⟩
theorem l_slices_IndexFunc_Lapi_Handle_api_Handle_store_fullF1_f74phh_1_s (N m : Nat) (s : (List (Int × Int))) (v7 : Int) (v8 : Int) (f : (List Int)) (f2 : (List Int)) : l_slices_IndexFunc_Lapi_Handle_api_Handle_store_fullF1_f74phh_1 N (m + 1) (s, v7, v8, f, f2) = cond (decide (v8 < v7))
   (obind (nthI s v8) fun z1 =>
    obind (m_store_fullF1_phh N (z1.1, (z1.2, (f, f2)))) fun z2 =>
    cond z2.1
     (some (.inr (v8, (z2.2.1, z2.2.2))))
     ((l_slices_IndexFunc_Lapi_Handle_api_Handle_store_fullF1_f74phh_1 N m (s, (v7, ((IntKind.wrap .i64 (v8 + (1 : Int))), (z2.2.1, z2.2.2)))))))
   (some (.inl (f, f2))) := by kernel_rfl
theorem m_slices_IndexFunc_Lapi_Handle_api_Handle_store_fullF1_f74phh_eq (N : Nat) (s : (List (Int × Int))) (f : (List Int)) (f2 : (List Int)) : m_slices_IndexFunc_Lapi_Handle_api_Handle_store_fullF1_f74phh (N + 1) (s, f, f2) = obind (l_slices_IndexFunc_Lapi_Handle_api_Handle_store_fullF1_f74phh_1 N N (s, ((((List.length s) : Nat) : Int), ((0 : Int), (f, f2))))) fun z1 =>
  (match z1 with
  | .inl zy2 => some ((-(1 : Int)), (zy2.1, zy2.2))
  | .inr zy3 => some (zy3.1, (zy3.2.1, zy3.2.2))) := by kernel_rfl
theorem c_slices_IndexFunc_Lapi_Handle_api_Handle_store_fullF1_f74phh_ok (N : Nat) : (c_slices_IndexFunc_Lapi_Handle_api_Handle_store_fullF1_f74phh N).ok Try.prog := exF_ok (T := T) (CT := ct_slices_IndexFunc_Lapi_Handle_api_Handle_store_fullF1_f74phh) (N := N) (fun M => ⟨tOk, (ctAll_cons (c_store_fullF1_phh_ok M) ctAll_nil), mixed, bwAll⟩) Try.func91 (by kernel_rfl) (by kernel_rfl) p_slices_IndexFunc_Lapi_Handle_api_Handle_store_fullF1_f74phh [.h (.sl (.pr (.i .i64) (.i .i64))), .cl (.func 74) [] [.k (.pt 4294967296 0)]] [(4294967296, .box 24 [.h (.sl (.i .i64)), .h (.sl (.i .i64))])] [(.sl (.pr (.i .i64) (.i .i64))), (.sl (.i .i64)), (.sl (.i .i64))] r_slices_IndexFunc_Lapi_Handle_api_Handle_store_fullF1_f74phh true false [4294967296] (by kernel_rfl) (fun y => by kernel_rfl) (fun h => by cases h) (fun y => by kernel_rfl) (m_slices_IndexFunc_Lapi_Handle_api_Handle_store_fullF1_f74phh N) (fun x => by kernel_rfl)
noncomputable def ct_slices_ContainsFunc_Lapi_Handle_api_Handle_store_fullF1_f74phh (N : Nat) : List Ctr := [c_slices_IndexFunc_Lapi_Handle_api_Handle_store_fullF1_f74phh N]
def p_slices_ContainsFunc_Lapi_Handle_api_Handle_store_fullF1_f74phh : Pl := .z
def r_slices_ContainsFunc_Lapi_Handle_api_Handle_store_fullF1_f74phh : PS := ⟨[(4, .h .b)], [(4294967296, .box 24 [.h (.sl (.i .i64)), .h (.sl (.i .i64))])], [.b, (.sl (.i .i64)), (.sl (.i .i64))]⟩
noncomputable def m_slices_ContainsFunc_Lapi_Handle_api_Handle_store_fullF1_f74phh (N : Nat) : (List (Int × Int)) × (List Int) × (List Int) → Option (Bool × (List Int) × (List Int)) := exF T ct_slices_ContainsFunc_Lapi_Handle_api_Handle_store_fullF1_f74phh N (bodyOf Try.f65) 9 p_slices_ContainsFunc_Lapi_Handle_api_Handle_store_fullF1_f74phh [.h (.sl (.pr (.i .i64) (.i .i64))), .cl (.func 74) [] [.k (.pt 4294967296 0)]] [(4294967296, .box 24 [.h (.sl (.i .i64)), .h (.sl (.i .i64))])] [(.sl (.pr (.i .i64) (.i .i64))), (.sl (.i .i64)), (.sl (.i .i64))] r_slices_ContainsFunc_Lapi_Handle_api_Handle_store_fullF1_f74phh
noncomputable def c_slices_ContainsFunc_Lapi_Handle_api_Handle_store_fullF1_f74phh (N : Nat) : Ctr := ⟨65, [.h (.sl (.pr (.i .i64) (.i .i64))), .cl (.func 74) [] [.k (.pt 4294967296 0)]], [(4294967296, .box 24 [.h (.sl (.i .i64)), .h (.sl (.i .i64))])], [(.sl (.pr (.i .i64) (.i .i64))), (.sl (.i .i64)), (.sl (.i .i64))], Tup r_slices_ContainsFunc_Lapi_Handle_api_Handle_store_fullF1_f74phh.c, m_slices_ContainsFunc_Lapi_Handle_api_Handle_store_fullF1_f74phh N, fun y _ k => k (resG T (mkPS 9 r_slices_ContainsFunc_Lapi_Handle_api_Handle_store_fullF1_f74phh y) Try.f65.results.toList) (keepH' [4294967296] (mkPS 9 r_slices_ContainsFunc_Lapi_Handle_api_Handle_store_fullF1_f74phh y).h), true, false⟩
theorem m_slices_ContainsFunc_Lapi_Handle_api_Handle_store_fullF1_f74phh_eq (N : Nat) (s : (List (Int × Int))) (f : (List Int)) (f2 : (List Int)) : m_slices_ContainsFunc_Lapi_Handle_api_Handle_store_fullF1_f74phh (N + 1) (s, f, f2) = obind (m_slices_IndexFunc_Lapi_Handle_api_Handle_store_fullF1_f74phh N (s, (f, f2))) fun z1 =>
  some ((decide ((0 : Int) ≤ z1.1)), (z1.2.1, z1.2.2)) := by kernel_rfl
theorem c_slices_ContainsFunc_Lapi_Handle_api_Handle_store_fullF1_f74phh_ok (N : Nat) : (c_slices_ContainsFunc_Lapi_Handle_api_Handle_store_fullF1_f74phh N).ok Try.prog := exF_ok (T := T) (CT := ct_slices_ContainsFunc_Lapi_Handle_api_Handle_store_fullF1_f74phh) (N := N) (fun M => ⟨tOk, (ctAll_cons (c_slices_IndexFunc_Lapi_Handle_api_Handle_store_fullF1_f74phh_ok M) ctAll_nil), mixed, bwAll⟩) Try.func65 (by kernel_rfl) (by kernel_rfl) p_slices_ContainsFunc_Lapi_Handle_api_Handle_store_fullF1_f74phh [.h (.sl (.pr (.i .i64) (.i .i64))), .cl (.func 74) [] [.k (.pt 4294967296 0)]] [(4294967296, .box 24 [.h (.sl (.i .i64)), .h (.sl (.i .i64))])] [(.sl (.pr (.i .i64) (.i .i64))), (.sl (.i .i64)), (.sl (.i .i64))] r_slices_ContainsFunc_Lapi_Handle_api_Handle_store_fullF1_f74phh true false [4294967296] (by kernel_rfl) (fun y => by kernel_rfl) (fun h => by cases h) (fun y => by kernel_rfl) (m_slices_ContainsFunc_Lapi_Handle_api_Handle_store_fullF1_f74phh N) (fun x => by kernel_rfl)
noncomputable def ct_store_full (N : Nat) : List Ctr := [c_slices_ContainsFunc_Lapi_Handle_api_Handle_store_fullF1_f74phh N]
def p_store_full : Pl := .z
def r_store_full : PS := ⟨[(4, .h .b)], [], [.b]⟩
noncomputable def m_store_full (N : Nat) : (List Int) × (List Int) × Int × Int × (List (Int × Int)) → Option (Bool) := exF T ct_store_full N (bodyOf Try.f49) 31 p_store_full [.ag [.h (.sl (.i .i64)), .h (.sl (.i .i64))], .ag [.h (.i .i64), .h (.i .i64), .h (.sl (.pr (.i .i64) (.i .i64)))]] [] [(.sl (.i .i64)), (.sl (.i .i64)), (.i .i64), (.i .i64), (.sl (.pr (.i .i64) (.i .i64)))] r_store_full
noncomputable def c_store_full (N : Nat) : Ctr := ⟨49, [.ag [.h (.sl (.i .i64)), .h (.sl (.i .i64))], .ag [.h (.i .i64), .h (.i .i64), .h (.sl (.pr (.i .i64) (.i .i64)))]], [], [(.sl (.i .i64)), (.sl (.i .i64)), (.i .i64), (.i .i64), (.sl (.pr (.i .i64) (.i .i64)))], Tup r_store_full.c, m_store_full N, fun y _ k => k (resG T (mkPS 31 r_store_full y) Try.f49.results.toList) (keepH' [] (mkPS 31 r_store_full y).h), false, true⟩
theorem m_store_full_eq (N : Nat) (p : (List Int)) (p2 : (List Int)) (x : Int) (x2 : Int) (x3 : (List (Int × Int))) : m_store_full (N + 1) (p, p2, x, x2, x3) = cond (decide (x < (0 : Int)))
   (some false)
   (cond (decide (x2 < (1 : Int)))
     (some false)
     (cond (decide ((8 : Int) < x2))
       (some false)
       (cond (!(decide ((((List.length x3) : Nat) : Int) = x2)))
         (some false)
         (obind (m_slices_ContainsFunc_Lapi_Handle_api_Handle_store_fullF1_f74phh N (x3, (p, p2))) fun z1 =>
          some (!z1.1))))) := by kernel_rfl
theorem c_store_full_ok (N : Nat) : (c_store_full N).ok Try.prog := exF_ok (T := T) (CT := ct_store_full) (N := N) (fun M => ⟨tOk, (ctAll_cons (c_slices_ContainsFunc_Lapi_Handle_api_Handle_store_fullF1_f74phh_ok M) ctAll_nil), mixed, bwAll⟩) Try.func49 (by kernel_rfl) (by kernel_rfl) p_store_full [.ag [.h (.sl (.i .i64)), .h (.sl (.i .i64))], .ag [.h (.i .i64), .h (.i .i64), .h (.sl (.pr (.i .i64) (.i .i64)))]] [] [(.sl (.i .i64)), (.sl (.i .i64)), (.i .i64), (.i .i64), (.sl (.pr (.i .i64) (.i .i64)))] r_store_full false true [] (by kernel_rfl) (fun y => by kernel_rfl) (fun _ => ⟨rfl, rfl⟩) (fun y => by kernel_rfl) (m_store_full N) (fun x => by kernel_rfl)
noncomputable def ct_store_Right (N : Nat) : List Ctr := [c_pool_Right N, c_slices_Contains_Lint_int N, c_store_empty N, c_store_full N]
def i_store_Right_1 : PS := ⟨[(1, .k (.pt 900 0)), (20, .h (.sl (.pr (.i .i64) (.pr (.i .i64) (.sl (.pr (.i .i64) (.i .i64))))))), (21, .h (.i .i64)), (22, .h (.i .i64))], [(900, .box 27 [.h (.sl (.i .i64)), .h (.sl (.i .i64)), .h (.sl (.pr (.i .i64) (.pr (.i .i64) (.sl (.pr (.i .i64) (.i .i64))))))])], [(.sl (.pr (.i .i64) (.pr (.i .i64) (.sl (.pr (.i .i64) (.i .i64)))))), (.i .i64), (.i .i64), (.sl (.i .i64)), (.sl (.i .i64)), (.sl (.pr (.i .i64) (.pr (.i .i64) (.sl (.pr (.i .i64) (.i .i64))))))]⟩
def o_store_Right_1 : List (Exit × PS) := [((.exit 0), ⟨[], [], []⟩), (.ret, ⟨[(2, .h .b)], [], [.b]⟩)]
def p_store_Right_1 : Pl := .z
noncomputable def l_store_Right_1 (N : Nat) : Nat → (List (Int × (Int × (List (Int × Int))))) × Int × Int × (List Int) × (List Int) × (List (Int × (Int × (List (Int × Int))))) → Option ((Unit) ⊕ (Bool)) := loopF (exC T (ct_store_Right N) N (codeAt [1, 1, 0, 1, 0, 0] (bodyOf Try.f18))) 41 i_store_Right_1 o_store_Right_1 p_store_Right_1
def p_store_Right : Pl := (.n .z (.n .z (.n (.n .z (.n (.loop i_store_Right_1 o_store_Right_1 p_store_Right_1) .z)) .z)))
def r_store_Right : PS := ⟨[(2, .h .b)], [], [.b]⟩
noncomputable def m_store_Right (N : Nat) : (List Int) × (List Int) × (List (Int × (Int × (List (Int × Int))))) → Option (Bool) := exF T ct_store_Right N (bodyOf Try.f18) 41 p_store_Right [.ag [.h (.sl (.i .i64)), .h (.sl (.i .i64)), .h (.sl (.pr (.i .i64) (.pr (.i .i64) (.sl (.pr (.i .i64) (.i .i64))))))]] [] [(.sl (.i .i64)), (.sl (.i .i64)), (.sl (.pr (.i .i64) (.pr (.i .i64) (.sl (.pr (.i .i64) (.i .i64))))))] r_store_Right
noncomputable def c_store_Right (N : Nat) : Ctr := ⟨18, [.ag [.h (.sl (.i .i64)), .h (.sl (.i .i64)), .h (.sl (.pr (.i .i64) (.pr (.i .i64) (.sl (.pr (.i .i64) (.i .i64))))))]], [], [(.sl (.i .i64)), (.sl (.i .i64)), (.sl (.pr (.i .i64) (.pr (.i .i64) (.sl (.pr (.i .i64) (.i .i64))))))], Tup r_store_Right.c, m_store_Right N, fun y _ k => k (resG T (mkPS 41 r_store_Right y) Try.f18.results.toList) (keepH' [] (mkPS 41 r_store_Right y).h), false, true⟩
theorem l_store_Right_1_s (N m : Nat) (v20 : (List (Int × (Int × (List (Int × Int)))))) (v21 : Int) (v22 : Int) (s : (List Int)) (s2 : (List Int)) (s3 : (List (Int × (Int × (List (Int × Int)))))) : l_store_Right_1 N (m + 1) (v20, v21, v22, s, s2, s3) = cond (decide (v22 < v21))
   (obind (nthI v20 v22) fun z1 =>
    obind (m_slices_Contains_Lint_int N (s2, v22)) fun z2 =>
    cond z2
     (obind (m_store_empty N (z1.1, (z1.2.1, z1.2.2))) fun z3 =>
      cond (!z3)
       (some (.inr false))
       ((l_store_Right_1 N m (v20, (v21, ((IntKind.wrap .i64 (v22 + (1 : Int))), (s, (s2, s3))))))))
     (obind (m_store_full N (s, (s2, (z1.1, (z1.2.1, z1.2.2))))) fun z4 =>
      cond (!z4)
       (some (.inr false))
       ((l_store_Right_1 N m (v20, (v21, ((IntKind.wrap .i64 (v22 + (1 : Int))), (s, (s2, s3)))))))))
   (some (.inl ())) := by kernel_rfl
theorem m_store_Right_eq (N : Nat) (s : (List Int)) (s2 : (List Int)) (s3 : (List (Int × (Int × (List (Int × Int)))))) : m_store_Right (N + 1) (s, s2, s3) = obind (m_pool_Right N (s, s2)) fun z1 =>
  cond (!z1)
   (some false)
   (cond (!(decide ((((List.length s3) : Nat) : Int) = (((List.length s) : Nat) : Int))))
     (some false)
     (obind (l_store_Right_1 N N (s3, ((((List.length s3) : Nat) : Int), ((0 : Int), (s, (s2, s3)))))) fun z2 =>
      (match z2 with
      | .inl zy3 => some true
      | .inr zy4 => some zy4))) := by kernel_rfl
theorem c_store_Right_ok (N : Nat) : (c_store_Right N).ok Try.prog := exF_ok (T := T) (CT := ct_store_Right) (N := N) (fun M => ⟨tOk, (ctAll_cons (c_pool_Right_ok M) (ctAll_cons (c_slices_Contains_Lint_int_ok M) (ctAll_cons (c_store_empty_ok M) (ctAll_cons (c_store_full_ok M) ctAll_nil)))), mixed, bwAll⟩) Try.func18 (by kernel_rfl) (by kernel_rfl) p_store_Right [.ag [.h (.sl (.i .i64)), .h (.sl (.i .i64)), .h (.sl (.pr (.i .i64) (.pr (.i .i64) (.sl (.pr (.i .i64) (.i .i64))))))]] [] [(.sl (.i .i64)), (.sl (.i .i64)), (.sl (.pr (.i .i64) (.pr (.i .i64) (.sl (.pr (.i .i64) (.i .i64))))))] r_store_Right false true [] (by kernel_rfl) (fun y => by kernel_rfl) (fun _ => ⟨rfl, rfl⟩) (fun y => by kernel_rfl) (m_store_Right N) (fun x => by kernel_rfl)
noncomputable def ct_ring_RightF1 (N : Nat) : List Ctr := []
def p_ring_RightF1 : Pl := .z
def r_ring_RightF1 : PS := ⟨[(2, .h .b)], [], [.b]⟩
noncomputable def m_ring_RightF1 (N : Nat) : Int → Option (Bool) := exF T ct_ring_RightF1 N (bodyOf Try.f99) 9 p_ring_RightF1 [.h (.i .i64)] [] [(.i .i64)] r_ring_RightF1
noncomputable def c_ring_RightF1 (N : Nat) : Ctr := ⟨99, [.h (.i .i64)], [], [(.i .i64)], Tup r_ring_RightF1.c, m_ring_RightF1 N, fun y _ k => k (resG T (mkPS 9 r_ring_RightF1 y) Try.f99.results.toList) (keepH' [] (mkPS 9 r_ring_RightF1 y).h), false, true⟩
theorem m_ring_RightF1_eq (N : Nat) (t : Int) : m_ring_RightF1 (N + 1) (t) = cond (decide (t < (0 : Int)))
   (some true)
   (some (decide ((10000 : Int) < t))) := by kernel_rfl
theorem c_ring_RightF1_ok (N : Nat) : (c_ring_RightF1 N).ok Try.prog := exF_ok (T := T) (CT := ct_ring_RightF1) (N := N) (fun M => ⟨tOk, ctAll_nil, mixed, bwAll⟩) Try.func99 (by kernel_rfl) (by kernel_rfl) p_ring_RightF1 [.h (.i .i64)] [] [(.i .i64)] r_ring_RightF1 false true [] (by kernel_rfl) (fun y => by kernel_rfl) (fun _ => ⟨rfl, rfl⟩) (fun y => by kernel_rfl) (m_ring_RightF1 N) (fun x => by kernel_rfl)
noncomputable def ct_slices_IndexFunc_Lint_int_ring_RightF1 (N : Nat) : List Ctr := [c_ring_RightF1 N]
def i_slices_IndexFunc_Lint_int_ring_RightF1_1 : PS := ⟨[(0, .h (.sl (.i .i64))), (1, .k (.v (.func (.func 99) #[] #[]))), (7, .h (.i .i64)), (8, .h (.i .i64))], [], [(.sl (.i .i64)), (.i .i64), (.i .i64)]⟩
def o_slices_IndexFunc_Lint_int_ring_RightF1_1 : List (Exit × PS) := [((.exit 0), ⟨[], [], []⟩), (.ret, ⟨[(4, .h (.i .i64))], [], [(.i .i64)]⟩)]
def p_slices_IndexFunc_Lint_int_ring_RightF1_1 : Pl := .z
noncomputable def l_slices_IndexFunc_Lint_int_ring_RightF1_1 (N : Nat) : Nat → (List Int) × Int × Int → Option ((Unit) ⊕ (Int)) := loopF (exC T (ct_slices_IndexFunc_Lint_int_ring_RightF1 N) N (codeAt [1, 0, 1, 0, 0] (bodyOf Try.f104))) 19 i_slices_IndexFunc_Lint_int_ring_RightF1_1 o_slices_IndexFunc_Lint_int_ring_RightF1_1 p_slices_IndexFunc_Lint_int_ring_RightF1_1
def p_slices_IndexFunc_Lint_int_ring_RightF1 : Pl := (.n .z (.n (.n .z (.n (.loop i_slices_IndexFunc_Lint_int_ring_RightF1_1 o_slices_IndexFunc_Lint_int_ring_RightF1_1 p_slices_IndexFunc_Lint_int_ring_RightF1_1) .z)) .z))
def r_slices_IndexFunc_Lint_int_ring_RightF1 : PS := ⟨[(4, .h (.i .i64))], [], [(.i .i64)]⟩
noncomputable def m_slices_IndexFunc_Lint_int_ring_RightF1 (N : Nat) : (List Int) → Option (Int) := exF T ct_slices_IndexFunc_Lint_int_ring_RightF1 N (bodyOf Try.f104) 19 p_slices_IndexFunc_Lint_int_ring_RightF1 [.h (.sl (.i .i64)), .k (.v (.func (.func 99) #[] #[]))] [] [(.sl (.i .i64))] r_slices_IndexFunc_Lint_int_ring_RightF1
noncomputable def c_slices_IndexFunc_Lint_int_ring_RightF1 (N : Nat) : Ctr := ⟨104, [.h (.sl (.i .i64)), .k (.v (.func (.func 99) #[] #[]))], [], [(.sl (.i .i64))], Tup r_slices_IndexFunc_Lint_int_ring_RightF1.c, m_slices_IndexFunc_Lint_int_ring_RightF1 N, fun y _ k => k (resG T (mkPS 19 r_slices_IndexFunc_Lint_int_ring_RightF1 y) Try.f104.results.toList) (keepH' [] (mkPS 19 r_slices_IndexFunc_Lint_int_ring_RightF1 y).h), false, true⟩
theorem l_slices_IndexFunc_Lint_int_ring_RightF1_1_s (N m : Nat) (s : (List Int)) (v7 : Int) (v8 : Int) : l_slices_IndexFunc_Lint_int_ring_RightF1_1 N (m + 1) (s, v7, v8) = cond (decide (v8 < v7))
   (obind (nthI s v8) fun z1 =>
    obind (m_ring_RightF1 N z1) fun z2 =>
    cond z2
     (some (.inr v8))
     ((l_slices_IndexFunc_Lint_int_ring_RightF1_1 N m (s, (v7, (IntKind.wrap .i64 (v8 + (1 : Int))))))))
   (some (.inl ())) := by kernel_rfl
theorem m_slices_IndexFunc_Lint_int_ring_RightF1_eq (N : Nat) (s : (List Int)) : m_slices_IndexFunc_Lint_int_ring_RightF1 (N + 1) (s) = obind (l_slices_IndexFunc_Lint_int_ring_RightF1_1 N N (s, ((((List.length s) : Nat) : Int), (0 : Int)))) fun z1 =>
  (match z1 with
  | .inl zy2 => some (-(1 : Int))
  | .inr zy3 => some zy3) := by kernel_rfl
theorem c_slices_IndexFunc_Lint_int_ring_RightF1_ok (N : Nat) : (c_slices_IndexFunc_Lint_int_ring_RightF1 N).ok Try.prog := exF_ok (T := T) (CT := ct_slices_IndexFunc_Lint_int_ring_RightF1) (N := N) (fun M => ⟨tOk, (ctAll_cons (c_ring_RightF1_ok M) ctAll_nil), mixed, bwAll⟩) Try.func104 (by kernel_rfl) (by kernel_rfl) p_slices_IndexFunc_Lint_int_ring_RightF1 [.h (.sl (.i .i64)), .k (.v (.func (.func 99) #[] #[]))] [] [(.sl (.i .i64))] r_slices_IndexFunc_Lint_int_ring_RightF1 false true [] (by kernel_rfl) (fun y => by kernel_rfl) (fun _ => ⟨rfl, rfl⟩) (fun y => by kernel_rfl) (m_slices_IndexFunc_Lint_int_ring_RightF1 N) (fun x => by kernel_rfl)
noncomputable def ct_slices_ContainsFunc_Lint_int_ring_RightF1 (N : Nat) : List Ctr := [c_slices_IndexFunc_Lint_int_ring_RightF1 N]
def p_slices_ContainsFunc_Lint_int_ring_RightF1 : Pl := .z
def r_slices_ContainsFunc_Lint_int_ring_RightF1 : PS := ⟨[(4, .h .b)], [], [.b]⟩
noncomputable def m_slices_ContainsFunc_Lint_int_ring_RightF1 (N : Nat) : (List Int) → Option (Bool) := exF T ct_slices_ContainsFunc_Lint_int_ring_RightF1 N (bodyOf Try.f95) 9 p_slices_ContainsFunc_Lint_int_ring_RightF1 [.h (.sl (.i .i64)), .k (.v (.func (.func 99) #[] #[]))] [] [(.sl (.i .i64))] r_slices_ContainsFunc_Lint_int_ring_RightF1
noncomputable def c_slices_ContainsFunc_Lint_int_ring_RightF1 (N : Nat) : Ctr := ⟨95, [.h (.sl (.i .i64)), .k (.v (.func (.func 99) #[] #[]))], [], [(.sl (.i .i64))], Tup r_slices_ContainsFunc_Lint_int_ring_RightF1.c, m_slices_ContainsFunc_Lint_int_ring_RightF1 N, fun y _ k => k (resG T (mkPS 9 r_slices_ContainsFunc_Lint_int_ring_RightF1 y) Try.f95.results.toList) (keepH' [] (mkPS 9 r_slices_ContainsFunc_Lint_int_ring_RightF1 y).h), false, true⟩
theorem m_slices_ContainsFunc_Lint_int_ring_RightF1_eq (N : Nat) (s : (List Int)) : m_slices_ContainsFunc_Lint_int_ring_RightF1 (N + 1) (s) = obind (m_slices_IndexFunc_Lint_int_ring_RightF1 N s) fun z1 =>
  some (decide ((0 : Int) ≤ z1)) := by kernel_rfl
theorem c_slices_ContainsFunc_Lint_int_ring_RightF1_ok (N : Nat) : (c_slices_ContainsFunc_Lint_int_ring_RightF1 N).ok Try.prog := exF_ok (T := T) (CT := ct_slices_ContainsFunc_Lint_int_ring_RightF1) (N := N) (fun M => ⟨tOk, (ctAll_cons (c_slices_IndexFunc_Lint_int_ring_RightF1_ok M) ctAll_nil), mixed, bwAll⟩) Try.func95 (by kernel_rfl) (by kernel_rfl) p_slices_ContainsFunc_Lint_int_ring_RightF1 [.h (.sl (.i .i64)), .k (.v (.func (.func 99) #[] #[]))] [] [(.sl (.i .i64))] r_slices_ContainsFunc_Lint_int_ring_RightF1 false true [] (by kernel_rfl) (fun y => by kernel_rfl) (fun _ => ⟨rfl, rfl⟩) (fun y => by kernel_rfl) (m_slices_ContainsFunc_Lint_int_ring_RightF1 N) (fun x => by kernel_rfl)
noncomputable def ct_ring_once_int (N : Nat) : List Ctr := []
def i_ring_once_int_1 : PS := ⟨[(0, .h (.sl (.i .i64))), (3, .k (.mp 900)), (7, .h (.sl (.i .i64))), (8, .h (.i .i64)), (9, .h (.i .i64))], [(900, .mp (.int .i64) (.i .i64) (.i .i64))], [(.sl (.i .i64)), (.sl (.i .i64)), (.i .i64), (.i .i64), (.sl (.pr (.i .i64) (.i .i64)))]⟩
def o_ring_once_int_1 : List (Exit × PS) := [((.exit 0), ⟨[(0, .h (.sl (.i .i64))), (3, .k (.mp 900))], [(900, .mp (.int .i64) (.i .i64) (.i .i64))], [(.sl (.i .i64)), (.sl (.pr (.i .i64) (.i .i64)))]⟩)]
def p_ring_once_int_1 : Pl := .z
noncomputable def l_ring_once_int_1 (N : Nat) : Nat → (List Int) × (List Int) × Int × Int × (List (Int × Int)) → Option ((List Int) × (List (Int × Int))) := loopF (exC T (ct_ring_once_int N) N (codeAt [1, 1, 0, 1, 0, 0] (bodyOf Try.f100))) 23 i_ring_once_int_1 o_ring_once_int_1 p_ring_once_int_1
def p_ring_once_int : Pl := (.n .z (.n .z (.n (.n .z (.n (.loop i_ring_once_int_1 o_ring_once_int_1 p_ring_once_int_1) .z)) .z)))
def r_ring_once_int : PS := ⟨[(2, .h .b)], [], [.b]⟩
noncomputable def m_ring_once_int (N : Nat) : (List Int) → Option (Bool) := exF T ct_ring_once_int N (bodyOf Try.f100) 23 p_ring_once_int [.h (.sl (.i .i64))] [] [(.sl (.i .i64))] r_ring_once_int
noncomputable def c_ring_once_int (N : Nat) : Ctr := ⟨100, [.h (.sl (.i .i64))], [], [(.sl (.i .i64))], Tup r_ring_once_int.c, m_ring_once_int N, fun y _ k => k (resG T (mkPS 23 r_ring_once_int y) Try.f100.results.toList) (keepH' [] (mkPS 23 r_ring_once_int y).h), false, true⟩
theorem l_ring_once_int_1_s (N m : Nat) (l : (List Int)) (v7 : (List Int)) (v8 : Int) (v9 : Int) (met : (List (Int × Int))) : l_ring_once_int_1 N (m + 1) (l, v7, v8, v9, met) = cond (decide (v9 < v8))
   (obind (nthI v7 v9) fun z1 =>
    (l_ring_once_int_1 N m (l, (v7, (v8, ((IntKind.wrap .i64 (v9 + (1 : Int))), (mput (.i .i64) met z1 (IntKind.wrap .i64 ((Option.getD (mget (.i .i64) met z1) (0 : Int)) + (1 : Int))))))))))
   (some (l, met)) := by kernel_rfl
theorem m_ring_once_int_eq (N : Nat) (l : (List Int)) : m_ring_once_int (N + 1) (l) = obind (l_ring_once_int_1 N N (l, (l, ((((List.length l) : Nat) : Int), ((0 : Int), []))))) fun z1 =>
  some (decide ((((List.length z1.2) : Nat) : Int) = (((List.length z1.1) : Nat) : Int))) := by kernel_rfl
theorem c_ring_once_int_ok (N : Nat) : (c_ring_once_int N).ok Try.prog := exF_ok (T := T) (CT := ct_ring_once_int) (N := N) (fun M => ⟨tOk, ctAll_nil, mixed, bwAll⟩) Try.func100 (by kernel_rfl) (by kernel_rfl) p_ring_once_int [.h (.sl (.i .i64))] [] [(.sl (.i .i64))] r_ring_once_int false true [] (by kernel_rfl) (fun y => by kernel_rfl) (fun _ => ⟨rfl, rfl⟩) (fun y => by kernel_rfl) (m_ring_once_int N) (fun x => by kernel_rfl)
noncomputable def ct_ring_Right (N : Nat) : List Ctr := [c_slices_ContainsFunc_Lint_int_ring_RightF1 N, c_ring_once_int N]
def p_ring_Right : Pl := .z
def r_ring_Right : PS := ⟨[(2, .h .b)], [], [.b]⟩
noncomputable def m_ring_Right (N : Nat) : (List Int) → Option (Bool) := exF T ct_ring_Right N (bodyOf Try.f80) 15 p_ring_Right [.h (.sl (.i .i64))] [] [(.sl (.i .i64))] r_ring_Right
noncomputable def c_ring_Right (N : Nat) : Ctr := ⟨80, [.h (.sl (.i .i64))], [], [(.sl (.i .i64))], Tup r_ring_Right.c, m_ring_Right N, fun y _ k => k (resG T (mkPS 15 r_ring_Right y) Try.f80.results.toList) (keepH' [] (mkPS 15 r_ring_Right y).h), false, true⟩
theorem m_ring_Right_eq (N : Nat) (l : (List Int)) : m_ring_Right (N + 1) (l) = cond (decide ((1000 : Int) < (((List.length l) : Nat) : Int)))
   (some false)
   (obind (m_slices_ContainsFunc_Lint_int_ring_RightF1 N l) fun z1 =>
    cond (!z1)
     (obind (m_ring_once_int N l) fun z2 =>
      some z2)
     (some false)) := by kernel_rfl
theorem c_ring_Right_ok (N : Nat) : (c_ring_Right N).ok Try.prog := exF_ok (T := T) (CT := ct_ring_Right) (N := N) (fun M => ⟨tOk, (ctAll_cons (c_slices_ContainsFunc_Lint_int_ring_RightF1_ok M) (ctAll_cons (c_ring_once_int_ok M) ctAll_nil)), mixed, bwAll⟩) Try.func80 (by kernel_rfl) (by kernel_rfl) p_ring_Right [.h (.sl (.i .i64))] [] [(.sl (.i .i64))] r_ring_Right false true [] (by kernel_rfl) (fun y => by kernel_rfl) (fun _ => ⟨rfl, rfl⟩) (fun y => by kernel_rfl) (m_ring_Right N) (fun x => by kernel_rfl)
noncomputable def ct_tower_high (N : Nat) : List Ctr := []
def p_tower_high : Pl := .z
def r_tower_high : PS := ⟨[(2, .h .b)], [], [.b]⟩
noncomputable def m_tower_high (N : Nat) : Int → Option (Bool) := exF T ct_tower_high N (bodyOf Try.f94) 9 p_tower_high [.h (.i .i64)] [] [(.i .i64)] r_tower_high
noncomputable def c_tower_high (N : Nat) : Ctr := ⟨94, [.h (.i .i64)], [], [(.i .i64)], Tup r_tower_high.c, m_tower_high N, fun y _ k => k (resG T (mkPS 9 r_tower_high y) Try.f94.results.toList) (keepH' [] (mkPS 9 r_tower_high y).h), false, true⟩
theorem m_tower_high_eq (N : Nat) (h : Int) : m_tower_high (N + 1) (h) = cond (decide ((1 : Int) ≤ h))
   (some (decide (h ≤ (8 : Int))))
   (some false) := by kernel_rfl
theorem c_tower_high_ok (N : Nat) : (c_tower_high N).ok Try.prog := exF_ok (T := T) (CT := ct_tower_high) (N := N) (fun M => ⟨tOk, ctAll_nil, mixed, bwAll⟩) Try.func94 (by kernel_rfl) (by kernel_rfl) p_tower_high [.h (.i .i64)] [] [(.i .i64)] r_tower_high false true [] (by kernel_rfl) (fun y => by kernel_rfl) (fun _ => ⟨rfl, rfl⟩) (fun y => by kernel_rfl) (m_tower_high N) (fun x => by kernel_rfl)
noncomputable def ct_tower_BuildF1 (N : Nat) : List Ctr := [c_tower_high N]
def p_tower_BuildF1 : Pl := .z
def r_tower_BuildF1 : PS := ⟨[(2, .h .b)], [], [.b]⟩
noncomputable def m_tower_BuildF1 (N : Nat) : Int → Option (Bool) := exF T ct_tower_BuildF1 N (bodyOf Try.f93) 6 p_tower_BuildF1 [.h (.i .i64)] [] [(.i .i64)] r_tower_BuildF1
noncomputable def c_tower_BuildF1 (N : Nat) : Ctr := ⟨93, [.h (.i .i64)], [], [(.i .i64)], Tup r_tower_BuildF1.c, m_tower_BuildF1 N, fun y _ k => k (resG T (mkPS 6 r_tower_BuildF1 y) Try.f93.results.toList) (keepH' [] (mkPS 6 r_tower_BuildF1 y).h), false, true⟩
theorem m_tower_BuildF1_eq (N : Nat) (h : Int) : m_tower_BuildF1 (N + 1) (h) = obind (m_tower_high N h) fun z1 =>
  some (!z1) := by kernel_rfl
theorem c_tower_BuildF1_ok (N : Nat) : (c_tower_BuildF1 N).ok Try.prog := exF_ok (T := T) (CT := ct_tower_BuildF1) (N := N) (fun M => ⟨tOk, (ctAll_cons (c_tower_high_ok M) ctAll_nil), mixed, bwAll⟩) Try.func93 (by kernel_rfl) (by kernel_rfl) p_tower_BuildF1 [.h (.i .i64)] [] [(.i .i64)] r_tower_BuildF1 false true [] (by kernel_rfl) (fun y => by kernel_rfl) (fun _ => ⟨rfl, rfl⟩) (fun y => by kernel_rfl) (m_tower_BuildF1 N) (fun x => by kernel_rfl)
noncomputable def ct_slices_IndexFunc_Lint_int_tower_BuildF1 (N : Nat) : List Ctr := [c_tower_BuildF1 N]
def i_slices_IndexFunc_Lint_int_tower_BuildF1_1 : PS := ⟨[(0, .h (.sl (.i .i64))), (1, .k (.v (.func (.func 93) #[] #[]))), (7, .h (.i .i64)), (8, .h (.i .i64))], [], [(.sl (.i .i64)), (.i .i64), (.i .i64)]⟩
def o_slices_IndexFunc_Lint_int_tower_BuildF1_1 : List (Exit × PS) := [((.exit 0), ⟨[], [], []⟩), (.ret, ⟨[(4, .h (.i .i64))], [], [(.i .i64)]⟩)]
def p_slices_IndexFunc_Lint_int_tower_BuildF1_1 : Pl := .z
noncomputable def l_slices_IndexFunc_Lint_int_tower_BuildF1_1 (N : Nat) : Nat → (List Int) × Int × Int → Option ((Unit) ⊕ (Int)) := loopF (exC T (ct_slices_IndexFunc_Lint_int_tower_BuildF1 N) N (codeAt [1, 0, 1, 0, 0] (bodyOf Try.f104))) 19 i_slices_IndexFunc_Lint_int_tower_BuildF1_1 o_slices_IndexFunc_Lint_int_tower_BuildF1_1 p_slices_IndexFunc_Lint_int_tower_BuildF1_1
def p_slices_IndexFunc_Lint_int_tower_BuildF1 : Pl := (.n .z (.n (.n .z (.n (.loop i_slices_IndexFunc_Lint_int_tower_BuildF1_1 o_slices_IndexFunc_Lint_int_tower_BuildF1_1 p_slices_IndexFunc_Lint_int_tower_BuildF1_1) .z)) .z))
def r_slices_IndexFunc_Lint_int_tower_BuildF1 : PS := ⟨[(4, .h (.i .i64))], [], [(.i .i64)]⟩
noncomputable def m_slices_IndexFunc_Lint_int_tower_BuildF1 (N : Nat) : (List Int) → Option (Int) := exF T ct_slices_IndexFunc_Lint_int_tower_BuildF1 N (bodyOf Try.f104) 19 p_slices_IndexFunc_Lint_int_tower_BuildF1 [.h (.sl (.i .i64)), .k (.v (.func (.func 93) #[] #[]))] [] [(.sl (.i .i64))] r_slices_IndexFunc_Lint_int_tower_BuildF1
noncomputable def c_slices_IndexFunc_Lint_int_tower_BuildF1 (N : Nat) : Ctr := ⟨104, [.h (.sl (.i .i64)), .k (.v (.func (.func 93) #[] #[]))], [], [(.sl (.i .i64))], Tup r_slices_IndexFunc_Lint_int_tower_BuildF1.c, m_slices_IndexFunc_Lint_int_tower_BuildF1 N, fun y _ k => k (resG T (mkPS 19 r_slices_IndexFunc_Lint_int_tower_BuildF1 y) Try.f104.results.toList) (keepH' [] (mkPS 19 r_slices_IndexFunc_Lint_int_tower_BuildF1 y).h), false, true⟩
theorem l_slices_IndexFunc_Lint_int_tower_BuildF1_1_s (N m : Nat) (s : (List Int)) (v7 : Int) (v8 : Int) : l_slices_IndexFunc_Lint_int_tower_BuildF1_1 N (m + 1) (s, v7, v8) = cond (decide (v8 < v7))
   (obind (nthI s v8) fun z1 =>
    obind (m_tower_BuildF1 N z1) fun z2 =>
    cond z2
     (some (.inr v8))
     ((l_slices_IndexFunc_Lint_int_tower_BuildF1_1 N m (s, (v7, (IntKind.wrap .i64 (v8 + (1 : Int))))))))
   (some (.inl ())) := by kernel_rfl
theorem m_slices_IndexFunc_Lint_int_tower_BuildF1_eq (N : Nat) (s : (List Int)) : m_slices_IndexFunc_Lint_int_tower_BuildF1 (N + 1) (s) = obind (l_slices_IndexFunc_Lint_int_tower_BuildF1_1 N N (s, ((((List.length s) : Nat) : Int), (0 : Int)))) fun z1 =>
  (match z1 with
  | .inl zy2 => some (-(1 : Int))
  | .inr zy3 => some zy3) := by kernel_rfl
theorem c_slices_IndexFunc_Lint_int_tower_BuildF1_ok (N : Nat) : (c_slices_IndexFunc_Lint_int_tower_BuildF1 N).ok Try.prog := exF_ok (T := T) (CT := ct_slices_IndexFunc_Lint_int_tower_BuildF1) (N := N) (fun M => ⟨tOk, (ctAll_cons (c_tower_BuildF1_ok M) ctAll_nil), mixed, bwAll⟩) Try.func104 (by kernel_rfl) (by kernel_rfl) p_slices_IndexFunc_Lint_int_tower_BuildF1 [.h (.sl (.i .i64)), .k (.v (.func (.func 93) #[] #[]))] [] [(.sl (.i .i64))] r_slices_IndexFunc_Lint_int_tower_BuildF1 false true [] (by kernel_rfl) (fun y => by kernel_rfl) (fun _ => ⟨rfl, rfl⟩) (fun y => by kernel_rfl) (m_slices_IndexFunc_Lint_int_tower_BuildF1 N) (fun x => by kernel_rfl)
noncomputable def ct_slices_ContainsFunc_Lint_int_tower_BuildF1 (N : Nat) : List Ctr := [c_slices_IndexFunc_Lint_int_tower_BuildF1 N]
def p_slices_ContainsFunc_Lint_int_tower_BuildF1 : Pl := .z
def r_slices_ContainsFunc_Lint_int_tower_BuildF1 : PS := ⟨[(4, .h .b)], [], [.b]⟩
noncomputable def m_slices_ContainsFunc_Lint_int_tower_BuildF1 (N : Nat) : (List Int) → Option (Bool) := exF T ct_slices_ContainsFunc_Lint_int_tower_BuildF1 N (bodyOf Try.f95) 9 p_slices_ContainsFunc_Lint_int_tower_BuildF1 [.h (.sl (.i .i64)), .k (.v (.func (.func 93) #[] #[]))] [] [(.sl (.i .i64))] r_slices_ContainsFunc_Lint_int_tower_BuildF1
noncomputable def c_slices_ContainsFunc_Lint_int_tower_BuildF1 (N : Nat) : Ctr := ⟨95, [.h (.sl (.i .i64)), .k (.v (.func (.func 93) #[] #[]))], [], [(.sl (.i .i64))], Tup r_slices_ContainsFunc_Lint_int_tower_BuildF1.c, m_slices_ContainsFunc_Lint_int_tower_BuildF1 N, fun y _ k => k (resG T (mkPS 9 r_slices_ContainsFunc_Lint_int_tower_BuildF1 y) Try.f95.results.toList) (keepH' [] (mkPS 9 r_slices_ContainsFunc_Lint_int_tower_BuildF1 y).h), false, true⟩
theorem m_slices_ContainsFunc_Lint_int_tower_BuildF1_eq (N : Nat) (s : (List Int)) : m_slices_ContainsFunc_Lint_int_tower_BuildF1 (N + 1) (s) = obind (m_slices_IndexFunc_Lint_int_tower_BuildF1 N s) fun z1 =>
  some (decide ((0 : Int) ≤ z1)) := by kernel_rfl
theorem c_slices_ContainsFunc_Lint_int_tower_BuildF1_ok (N : Nat) : (c_slices_ContainsFunc_Lint_int_tower_BuildF1 N).ok Try.prog := exF_ok (T := T) (CT := ct_slices_ContainsFunc_Lint_int_tower_BuildF1) (N := N) (fun M => ⟨tOk, (ctAll_cons (c_slices_IndexFunc_Lint_int_tower_BuildF1_ok M) ctAll_nil), mixed, bwAll⟩) Try.func95 (by kernel_rfl) (by kernel_rfl) p_slices_ContainsFunc_Lint_int_tower_BuildF1 [.h (.sl (.i .i64)), .k (.v (.func (.func 93) #[] #[]))] [] [(.sl (.i .i64))] r_slices_ContainsFunc_Lint_int_tower_BuildF1 false true [] (by kernel_rfl) (fun y => by kernel_rfl) (fun _ => ⟨rfl, rfl⟩) (fun y => by kernel_rfl) (m_slices_ContainsFunc_Lint_int_tower_BuildF1 N) (fun x => by kernel_rfl)
noncomputable def ct_slices_Clone_Lint_int (N : Nat) : List Ctr := []
def p_slices_Clone_Lint_int : Pl := .z
def r_slices_Clone_Lint_int : PS := ⟨[(2, .k (.ow 900))], [(900, .arr 3 (.i .i64) true)], [(.sl (.i .i64))]⟩
noncomputable def m_slices_Clone_Lint_int (N : Nat) : (List Int) → Option ((List Int)) := exF T ct_slices_Clone_Lint_int N (bodyOf Try.f96) 8 p_slices_Clone_Lint_int [.h (.sl (.i .i64))] [] [(.sl (.i .i64))] r_slices_Clone_Lint_int
noncomputable def c_slices_Clone_Lint_int (N : Nat) : Ctr := ⟨96, [.h (.sl (.i .i64))], [], [(.sl (.i .i64))], Tup r_slices_Clone_Lint_int.c, m_slices_Clone_Lint_int N, fun y _ k => k (resG T (mkPS 8 r_slices_Clone_Lint_int y) Try.f96.results.toList) (keepH' [900] (mkPS 8 r_slices_Clone_Lint_int y).h), true, true⟩
theorem m_slices_Clone_Lint_int_eq (N : Nat) (s : (List Int)) : m_slices_Clone_Lint_int (N + 1) (s) = cond (isNilB s)
   (dem fun zb1 =>
    cond zb1
     (some [])
     (obind (appI (8 : Nat) [] s) fun z2 =>
      some z2))
   (obind (appI (8 : Nat) [] s) fun z3 =>
    some z3) := by kernel_rfl
theorem c_slices_Clone_Lint_int_ok (N : Nat) : (c_slices_Clone_Lint_int N).ok Try.prog := exF_ok (T := T) (CT := ct_slices_Clone_Lint_int) (N := N) (fun M => ⟨tOk, ctAll_nil, mixed, bwAll⟩) Try.func96 (by kernel_rfl) (by kernel_rfl) p_slices_Clone_Lint_int [.h (.sl (.i .i64))] [] [(.sl (.i .i64))] r_slices_Clone_Lint_int true true [900] (by kernel_rfl) (fun y => by kernel_rfl) (fun h => by cases h) (fun y => by kernel_rfl) (m_slices_Clone_Lint_int N) (fun x => by kernel_rfl)
noncomputable def ct_tower_Build (N : Nat) : List Ctr := [c_ring_Right N, c_slices_ContainsFunc_Lint_int_tower_BuildF1 N, c_slices_Clone_Lint_int N]
def i_tower_Build_3 : PS := ⟨[(1, .h (.sl (.i .i64))), (4, .k (.pt 900 0)), (6, .h (.i .i64)), (8, .k (.pt 901 0)), (9, .k (.pt 902 0)), (11, .h (.i .i64)), (42, .h (.i .i64)), (43, .h (.i .i64)), (68, .h (.i .i64)), (69, .h (.i .i64))], [(900, .box 35 [.k .nil, .k .nil, .k .nil]), (901, .box 35 [.k (.ow 903), .k (.ow 904), .k (.ow 905)]), (902, .arr 137 (.i .i64) true), (903, .arr 3 (.i .i64) true), (904, .arr 3 (.i .i64) true), (905, .arr 22 (.sl (.i .i64)) true)], [(.sl (.i .i64)), (.i .i64), (.i .i64), (.i .i64), (.i .i64), (.i .i64), (.i .i64), (.sl (.i .i64)), (.sl (.i .i64)), (.sl (.i .i64)), (.sl (.sl (.i .i64)))]⟩
def o_tower_Build_3 : List (Exit × PS) := [((.exit 2), ⟨[(1, .h (.sl (.i .i64))), (4, .k (.pt 900 0)), (6, .h (.i .i64)), (8, .k (.pt 901 0)), (9, .k (.pt 902 0)), (42, .h (.i .i64)), (43, .h (.i .i64))], [(900, .box 35 [.k .nil, .k .nil, .k .nil]), (901, .box 35 [.k (.ow 903), .k (.ow 904), .k (.ow 905)]), (902, .arr 137 (.i .i64) true), (903, .arr 3 (.i .i64) true), (904, .arr 3 (.i .i64) true), (905, .arr 22 (.sl (.i .i64)) true)], [(.sl (.i .i64)), (.i .i64), (.i .i64), (.i .i64), (.sl (.i .i64)), (.sl (.i .i64)), (.sl (.i .i64)), (.sl (.sl (.i .i64)))]⟩)]
def p_tower_Build_3 : Pl := .z
noncomputable def l_tower_Build_3 (N : Nat) : Nat → (List Int) × Int × Int × Int × Int × Int × Int × (List Int) × (List Int) × (List Int) × (List (List Int)) → Option ((List Int) × Int × Int × Int × (List Int) × (List Int) × (List Int) × (List (List Int))) := loopF (exC T (ct_tower_Build N) N (codeAt [1, 1, 1, 1, 1, 1, 0, 1, 0, 0, 1, 1, 0, 0, 1, 1, 1, 1, 0, 0] (bodyOf Try.f75))) 78 i_tower_Build_3 o_tower_Build_3 p_tower_Build_3
def i_tower_Build_2 : PS := ⟨[(1, .h (.sl (.i .i64))), (4, .k (.pt 900 0)), (6, .h (.i .i64)), (8, .k (.pt 901 0)), (9, .k (.pt 902 0)), (10, .h (.i .i64)), (11, .h (.i .i64)), (42, .h (.i .i64)), (43, .h (.i .i64))], [(900, .box 35 [.k .nil, .k .nil, .k .nil]), (901, .box 35 [.k (.ow 903), .k (.ow 904), .k (.ow 905)]), (902, .arr 137 (.i .i64) true), (903, .arr 3 (.i .i64) true), (904, .arr 3 (.i .i64) true), (905, .arr 22 (.sl (.i .i64)) true)], [(.sl (.i .i64)), (.i .i64), (.i .i64), (.i .i64), (.i .i64), (.i .i64), (.sl (.i .i64)), (.sl (.i .i64)), (.sl (.i .i64)), (.sl (.sl (.i .i64)))]⟩
def o_tower_Build_2 : List (Exit × PS) := [(.normal, ⟨[(1, .h (.sl (.i .i64))), (4, .k (.pt 900 0)), (6, .h (.i .i64)), (8, .k (.pt 901 0)), (9, .k (.pt 902 0)), (11, .h (.i .i64)), (42, .h (.i .i64)), (43, .h (.i .i64))], [(900, .box 35 [.k .nil, .k .nil, .k .nil]), (901, .box 35 [.k (.ow 903), .k (.ow 904), .k (.ow 905)]), (902, .arr 137 (.i .i64) true), (903, .arr 3 (.i .i64) true), (904, .arr 3 (.i .i64) true), (905, .arr 22 (.sl (.i .i64)) true)], [(.sl (.i .i64)), (.i .i64), (.i .i64), (.i .i64), (.i .i64), (.sl (.i .i64)), (.sl (.i .i64)), (.sl (.i .i64)), (.sl (.sl (.i .i64)))]⟩)]
def p_tower_Build_2 : Pl := .z
noncomputable def l_tower_Build_2 (N : Nat) : Nat → (List Int) × Int × Int × Int × Int × Int × (List Int) × (List Int) × (List Int) × (List (List Int)) → Option ((List Int) × Int × Int × Int × Int × (List Int) × (List Int) × (List Int) × (List (List Int))) := joinF (exC0 T (ct_tower_Build N) N (codeAt [1, 1, 1, 1, 1, 1, 0, 1, 0, 0, 1, 1, 0, 0, 1, 1, 0] (bodyOf Try.f75))) 78 i_tower_Build_2 o_tower_Build_2 p_tower_Build_2
def i_tower_Build_1 : PS := ⟨[(1, .h (.sl (.i .i64))), (4, .k (.pt 900 0)), (6, .h (.i .i64)), (8, .k (.pt 901 0)), (9, .k (.pt 902 0)), (42, .h (.i .i64)), (43, .h (.i .i64))], [(900, .box 35 [.k .nil, .k .nil, .k .nil]), (901, .box 35 [.k (.ow 903), .k (.ow 904), .k (.ow 905)]), (902, .arr 137 (.i .i64) true), (903, .arr 3 (.i .i64) true), (904, .arr 3 (.i .i64) true), (905, .arr 22 (.sl (.i .i64)) true)], [(.sl (.i .i64)), (.i .i64), (.i .i64), (.i .i64), (.sl (.i .i64)), (.sl (.i .i64)), (.sl (.i .i64)), (.sl (.sl (.i .i64)))]⟩
def o_tower_Build_1 : List (Exit × PS) := [((.exit 0), ⟨[(4, .k (.pt 900 0)), (8, .k (.pt 901 0))], [(900, .box 35 [.k .nil, .k .nil, .k .nil]), (901, .box 35 [.k (.ow 902), .k (.ow 903), .k (.ow 904)]), (902, .arr 3 (.i .i64) true), (903, .arr 3 (.i .i64) true), (904, .arr 22 (.sl (.i .i64)) true)], [(.sl (.i .i64)), (.sl (.i .i64)), (.sl (.sl (.i .i64)))]⟩)]
def p_tower_Build_1 : Pl := (.n .z (.n .z (.n (.n (.n .z (.n .z (.n (.join i_tower_Build_2 o_tower_Build_2 p_tower_Build_2) (.n .z (.n (.loop i_tower_Build_3 o_tower_Build_3 p_tower_Build_3) .z))))) .z) .z)))
noncomputable def l_tower_Build_1 (N : Nat) : Nat → (List Int) × Int × Int × Int × (List Int) × (List Int) × (List Int) × (List (List Int)) → Option ((List Int) × (List Int) × (List (List Int))) := loopF (exC T (ct_tower_Build N) N (codeAt [1, 1, 1, 1, 1, 1, 0, 1, 0, 0] (bodyOf Try.f75))) 78 i_tower_Build_1 o_tower_Build_1 p_tower_Build_1
def p_tower_Build : Pl := (.n .z (.n .z (.n .z (.n .z (.n .z (.n .z (.n (.n .z (.n (.loop i_tower_Build_1 o_tower_Build_1 p_tower_Build_1) .z)) .z)))))))
def r_tower_Build : PS := ⟨[(4, .k (.pt 900 0)), (5, .h (.i .i64))], [(900, .box 35 [.h (.sl (.i .i64)), .h (.sl (.i .i64)), .h (.sl (.sl (.i .i64)))])], [(.i .i64), (.sl (.i .i64)), (.sl (.i .i64)), (.sl (.sl (.i .i64)))]⟩
noncomputable def m_tower_Build (N : Nat) : (List Int) × (List Int) → Option (Int × (List Int) × (List Int) × (List (List Int))) := exF T ct_tower_Build N (bodyOf Try.f75) 78 p_tower_Build [.h (.sl (.i .i64)), .h (.sl (.i .i64))] [] [(.sl (.i .i64)), (.sl (.i .i64))] r_tower_Build
noncomputable def c_tower_Build (N : Nat) : Ctr := ⟨75, [.h (.sl (.i .i64)), .h (.sl (.i .i64))], [], [(.sl (.i .i64)), (.sl (.i .i64))], Tup r_tower_Build.c, m_tower_Build N, fun y _ k => k (resG T (mkPS 78 r_tower_Build y) Try.f75.results.toList) (keepH' [] (mkPS 78 r_tower_Build y).h), false, false⟩
theorem l_tower_Build_3_s (N m : Nat) (heights : (List Int)) (n : Int) (i : Int) (v42 : Int) (v43 : Int) (v68 : Int) (v69 : Int) (behind : (List Int)) (v903 : (List Int)) (v904 : (List Int)) (v905 : (List (List Int))) : l_tower_Build_3 N (m + 1) (heights, n, i, v42, v43, v68, v69, behind, v903, v904, v905) = cond (decide (v69 < v68))
   (obind (nthI (List.range (8 : Nat)) v69) fun z1 =>
    obind (nthI behind v69) fun z2 =>
    obind (nthI behind v69) fun z3 =>
    (l_tower_Build_3 N m (heights, (n, (i, (v42, (v43, (v68, ((IntKind.wrap .i64 (v69 + (1 : Int))), ((List.set behind (Int.toNat v69) i), (v903, (v904, v905))))))))))))
   (some (heights, (n, (v42, (v43, (behind, (v903, (v904, v905)))))))) := by kernel_rfl
theorem l_tower_Build_2_s (N m : Nat) (heights : (List Int)) (n : Int) (k : Int) (i : Int) (v42 : Int) (v43 : Int) (behind : (List Int)) (v903 : (List Int)) (v904 : (List Int)) (v905 : (List (List Int))) : l_tower_Build_2 N (m + 1) (heights, n, k, i, v42, v43, behind, v903, v904, v905) = cond (decide (n ≤ k))
   (obind (nthI heights i) fun z1 =>
    obind (subI (List.replicate (8 : Nat) ()) (0 : Int) z1) fun z2 =>
    cond ((Nat.ble ((Int.toNat (0 : Int)) + (Int.toNat (z1 - (0 : Int)))) (List.length behind)) && true)
     (obind (m_slices_Clone_Lint_int N (List.take (Int.toNat (z1 - (0 : Int))) (List.drop (Int.toNat (0 : Int)) behind))) fun z3 =>
      obind (nthI v905 i) fun z4 =>
      obind (nthI v905 i) fun z5 =>
      some (heights, (n, (i, (v42, (v43, (behind, (v903, (v904, (List.set v905 (Int.toNat i) z3))))))))))
     (none))
   (some (heights, (n, (i, (v42, (v43, (behind, (v903, (v904, v905))))))))) := by kernel_rfl
theorem l_tower_Build_1_s (N m : Nat) (heights : (List Int)) (n : Int) (v42 : Int) (v43 : Int) (behind : (List Int)) (v903 : (List Int)) (v904 : (List Int)) (v905 : (List (List Int))) : l_tower_Build_1 N (m + 1) (heights, n, v42, v43, behind, v903, v904, v905) = cond (decide (v43 < v42))
   (obind (remI v43 n) fun z1 =>
    obind (l_tower_Build_2 N N (heights, (n, (v43, ((IntKind.wrap .i64 ((IntKind.wrap .i64 (n - (1 : Int))) - z1)), (v42, (v43, (behind, (v903, (v904, v905)))))))))) fun z2 =>
    obind (nthI z2.1 z2.2.2.1) fun z3 =>
    obind (l_tower_Build_3 N N (z2.1, (z2.2.1, (z2.2.2.1, (z2.2.2.2.1, (z2.2.2.2.2.1, (z3, ((0 : Int), (z2.2.2.2.2.2.1, (z2.2.2.2.2.2.2.1, (z2.2.2.2.2.2.2.2.1, z2.2.2.2.2.2.2.2.2))))))))))) fun z4 =>
    (l_tower_Build_1 N m (z4.1, (z4.2.1, (z4.2.2.1, ((IntKind.wrap .i64 (z4.2.2.2.1 + (1 : Int))), (z4.2.2.2.2.1, (z4.2.2.2.2.2.1, (z4.2.2.2.2.2.2.1, z4.2.2.2.2.2.2.2)))))))))
   (some (v903, (v904, v905))) := by kernel_rfl
theorem m_tower_Build_eq (N : Nat) (tokens : (List Int)) (heights : (List Int)) : m_tower_Build (N + 1) (tokens, heights) = cond (decide ((((List.length tokens) : Nat) : Int) = (0 : Int)))
   (some ((1 : Int), ([], ([], []))))
   (cond (!(decide ((((List.length heights) : Nat) : Int) = (((List.length tokens) : Nat) : Int))))
     (some ((1 : Int), ([], ([], []))))
     (obind (m_ring_Right N tokens) fun z1 =>
      cond (!z1)
       (some ((1 : Int), ([], ([], []))))
       (obind (m_slices_ContainsFunc_Lint_int_tower_BuildF1 N heights) fun z2 =>
        cond z2
         (some ((1 : Int), ([], ([], []))))
         (obind (m_slices_Clone_Lint_int N tokens) fun z3 =>
          obind (m_slices_Clone_Lint_int N heights) fun z4 =>
          obind (makI (((List.length tokens) : Nat) : Int) (24 : Nat)) fun z5 =>
          obind (l_tower_Build_1 N N (heights, ((((List.length tokens) : Nat) : Int), ((IntKind.wrap .i64 ((2 : Int) * (((List.length tokens) : Nat) : Int))), ((0 : Int), ((List.replicate (8 : Nat) (0 : Int)), (z3, (z4, (List.replicate z5 []))))))))) fun z6 =>
          some ((0 : Int), (z6.1, (z6.2.1, z6.2.2))))))) := by kernel_rfl
theorem c_tower_Build_ok (N : Nat) : (c_tower_Build N).ok Try.prog := exF_ok (T := T) (CT := ct_tower_Build) (N := N) (fun M => ⟨tOk, (ctAll_cons (c_ring_Right_ok M) (ctAll_cons (c_slices_ContainsFunc_Lint_int_tower_BuildF1_ok M) (ctAll_cons (c_slices_Clone_Lint_int_ok M) ctAll_nil))), mixed, bwAll⟩) Try.func75 (by kernel_rfl) (by kernel_rfl) p_tower_Build [.h (.sl (.i .i64)), .h (.sl (.i .i64))] [] [(.sl (.i .i64)), (.sl (.i .i64))] r_tower_Build false false [] (by kernel_rfl) (fun y => by kernel_rfl) (fun _ => ⟨rfl, rfl⟩) (fun y => by kernel_rfl) (m_tower_Build N) (fun x => by kernel_rfl)
noncomputable def ct_slices_Equal_Lint_int (N : Nat) : List Ctr := []
def i_slices_Equal_Lint_int_1 : PS := ⟨[(0, .h (.sl (.i .i64))), (1, .h (.sl (.i .i64))), (12, .h (.i .i64)), (13, .h (.i .i64))], [], [(.sl (.i .i64)), (.sl (.i .i64)), (.i .i64), (.i .i64)]⟩
def o_slices_Equal_Lint_int_1 : List (Exit × PS) := [((.exit 0), ⟨[], [], []⟩), (.ret, ⟨[(4, .h .b)], [], [.b]⟩)]
def p_slices_Equal_Lint_int_1 : Pl := .z
noncomputable def l_slices_Equal_Lint_int_1 (N : Nat) : Nat → (List Int) × (List Int) × Int × Int → Option ((Unit) ⊕ (Bool)) := loopF (exC T (ct_slices_Equal_Lint_int N) N (codeAt [1, 1, 0, 1, 0, 0] (bodyOf Try.f97))) 26 i_slices_Equal_Lint_int_1 o_slices_Equal_Lint_int_1 p_slices_Equal_Lint_int_1
def p_slices_Equal_Lint_int : Pl := (.n .z (.n .z (.n (.n .z (.n (.loop i_slices_Equal_Lint_int_1 o_slices_Equal_Lint_int_1 p_slices_Equal_Lint_int_1) .z)) .z)))
def r_slices_Equal_Lint_int : PS := ⟨[(4, .h .b)], [], [.b]⟩
noncomputable def m_slices_Equal_Lint_int (N : Nat) : (List Int) × (List Int) → Option (Bool) := exF T ct_slices_Equal_Lint_int N (bodyOf Try.f97) 26 p_slices_Equal_Lint_int [.h (.sl (.i .i64)), .h (.sl (.i .i64))] [] [(.sl (.i .i64)), (.sl (.i .i64))] r_slices_Equal_Lint_int
noncomputable def c_slices_Equal_Lint_int (N : Nat) : Ctr := ⟨97, [.h (.sl (.i .i64)), .h (.sl (.i .i64))], [], [(.sl (.i .i64)), (.sl (.i .i64))], Tup r_slices_Equal_Lint_int.c, m_slices_Equal_Lint_int N, fun y _ k => k (resG T (mkPS 26 r_slices_Equal_Lint_int y) Try.f97.results.toList) (keepH' [] (mkPS 26 r_slices_Equal_Lint_int y).h), false, true⟩
theorem l_slices_Equal_Lint_int_1_s (N m : Nat) (s1 : (List Int)) (s2 : (List Int)) (v12 : Int) (v13 : Int) : l_slices_Equal_Lint_int_1 N (m + 1) (s1, s2, v12, v13) = cond (decide (v13 < v12))
   (obind (nthI s1 v13) fun z1 =>
    obind (nthI s2 v13) fun z2 =>
    cond (!(decide (z1 = z2)))
     (some (.inr false))
     ((l_slices_Equal_Lint_int_1 N m (s1, (s2, (v12, (IntKind.wrap .i64 (v13 + (1 : Int)))))))))
   (some (.inl ())) := by kernel_rfl
theorem m_slices_Equal_Lint_int_eq (N : Nat) (s1 : (List Int)) (s2 : (List Int)) : m_slices_Equal_Lint_int (N + 1) (s1, s2) = cond (!(decide ((((List.length s1) : Nat) : Int) = (((List.length s2) : Nat) : Int))))
   (some false)
   (obind (l_slices_Equal_Lint_int_1 N N (s1, (s2, ((((List.length s1) : Nat) : Int), (0 : Int))))) fun z1 =>
    (match z1 with
    | .inl zy2 => some true
    | .inr zy3 => some zy3)) := by kernel_rfl
theorem c_slices_Equal_Lint_int_ok (N : Nat) : (c_slices_Equal_Lint_int N).ok Try.prog := exF_ok (T := T) (CT := ct_slices_Equal_Lint_int) (N := N) (fun M => ⟨tOk, ctAll_nil, mixed, bwAll⟩) Try.func97 (by kernel_rfl) (by kernel_rfl) p_slices_Equal_Lint_int [.h (.sl (.i .i64)), .h (.sl (.i .i64))] [] [(.sl (.i .i64)), (.sl (.i .i64))] r_slices_Equal_Lint_int false true [] (by kernel_rfl) (fun y => by kernel_rfl) (fun _ => ⟨rfl, rfl⟩) (fun y => by kernel_rfl) (m_slices_Equal_Lint_int N) (fun x => by kernel_rfl)
noncomputable def ct_slices_EqualFunc_LLint_LLint_Lint_Lint_slices_Equal_Lint_int (N : Nat) : List Ctr := [c_slices_Equal_Lint_int N]
def i_slices_EqualFunc_LLint_LLint_Lint_Lint_slices_Equal_Lint_int_1 : PS := ⟨[(1, .h (.sl (.sl (.i .i64)))), (2, .k (.v (.func (.func 97) #[] #[]))), (15, .h (.sl (.sl (.i .i64)))), (16, .h (.i .i64)), (17, .h (.i .i64))], [], [(.sl (.sl (.i .i64))), (.sl (.sl (.i .i64))), (.i .i64), (.i .i64)]⟩
def o_slices_EqualFunc_LLint_LLint_Lint_Lint_slices_Equal_Lint_int_1 : List (Exit × PS) := [((.exit 0), ⟨[], [], []⟩), (.ret, ⟨[(6, .h .b)], [], [.b]⟩)]
def p_slices_EqualFunc_LLint_LLint_Lint_Lint_slices_Equal_Lint_int_1 : Pl := .z
noncomputable def l_slices_EqualFunc_LLint_LLint_Lint_Lint_slices_Equal_Lint_int_1 (N : Nat) : Nat → (List (List Int)) × (List (List Int)) × Int × Int → Option ((Unit) ⊕ (Bool)) := loopF (exC T (ct_slices_EqualFunc_LLint_LLint_Lint_Lint_slices_Equal_Lint_int N) N (codeAt [1, 1, 0, 1, 0, 0] (bodyOf Try.f98))) 32 i_slices_EqualFunc_LLint_LLint_Lint_Lint_slices_Equal_Lint_int_1 o_slices_EqualFunc_LLint_LLint_Lint_Lint_slices_Equal_Lint_int_1 p_slices_EqualFunc_LLint_LLint_Lint_Lint_slices_Equal_Lint_int_1
def p_slices_EqualFunc_LLint_LLint_Lint_Lint_slices_Equal_Lint_int : Pl := (.n .z (.n .z (.n (.n .z (.n (.loop i_slices_EqualFunc_LLint_LLint_Lint_Lint_slices_Equal_Lint_int_1 o_slices_EqualFunc_LLint_LLint_Lint_Lint_slices_Equal_Lint_int_1 p_slices_EqualFunc_LLint_LLint_Lint_Lint_slices_Equal_Lint_int_1) .z)) .z)))
def r_slices_EqualFunc_LLint_LLint_Lint_Lint_slices_Equal_Lint_int : PS := ⟨[(6, .h .b)], [], [.b]⟩
noncomputable def m_slices_EqualFunc_LLint_LLint_Lint_Lint_slices_Equal_Lint_int (N : Nat) : (List (List Int)) × (List (List Int)) → Option (Bool) := exF T ct_slices_EqualFunc_LLint_LLint_Lint_Lint_slices_Equal_Lint_int N (bodyOf Try.f98) 32 p_slices_EqualFunc_LLint_LLint_Lint_Lint_slices_Equal_Lint_int [.h (.sl (.sl (.i .i64))), .h (.sl (.sl (.i .i64))), .k (.v (.func (.func 97) #[] #[]))] [] [(.sl (.sl (.i .i64))), (.sl (.sl (.i .i64)))] r_slices_EqualFunc_LLint_LLint_Lint_Lint_slices_Equal_Lint_int
noncomputable def c_slices_EqualFunc_LLint_LLint_Lint_Lint_slices_Equal_Lint_int (N : Nat) : Ctr := ⟨98, [.h (.sl (.sl (.i .i64))), .h (.sl (.sl (.i .i64))), .k (.v (.func (.func 97) #[] #[]))], [], [(.sl (.sl (.i .i64))), (.sl (.sl (.i .i64)))], Tup r_slices_EqualFunc_LLint_LLint_Lint_Lint_slices_Equal_Lint_int.c, m_slices_EqualFunc_LLint_LLint_Lint_Lint_slices_Equal_Lint_int N, fun y _ k => k (resG T (mkPS 32 r_slices_EqualFunc_LLint_LLint_Lint_Lint_slices_Equal_Lint_int y) Try.f98.results.toList) (keepH' [] (mkPS 32 r_slices_EqualFunc_LLint_LLint_Lint_Lint_slices_Equal_Lint_int y).h), false, true⟩
theorem l_slices_EqualFunc_LLint_LLint_Lint_Lint_slices_Equal_Lint_int_1_s (N m : Nat) (s2 : (List (List Int))) (v15 : (List (List Int))) (v16 : Int) (v17 : Int) : l_slices_EqualFunc_LLint_LLint_Lint_Lint_slices_Equal_Lint_int_1 N (m + 1) (s2, v15, v16, v17) = cond (decide (v17 < v16))
   (obind (nthI v15 v17) fun z1 =>
    obind (nthI s2 v17) fun z2 =>
    obind (m_slices_Equal_Lint_int N (z1, z2)) fun z3 =>
    cond (!z3)
     (some (.inr false))
     ((l_slices_EqualFunc_LLint_LLint_Lint_Lint_slices_Equal_Lint_int_1 N m (s2, (v15, (v16, (IntKind.wrap .i64 (v17 + (1 : Int)))))))))
   (some (.inl ())) := by kernel_rfl
theorem m_slices_EqualFunc_LLint_LLint_Lint_Lint_slices_Equal_Lint_int_eq (N : Nat) (s1 : (List (List Int))) (s2 : (List (List Int))) : m_slices_EqualFunc_LLint_LLint_Lint_Lint_slices_Equal_Lint_int (N + 1) (s1, s2) = cond (!(decide ((((List.length s1) : Nat) : Int) = (((List.length s2) : Nat) : Int))))
   (some false)
   (obind (l_slices_EqualFunc_LLint_LLint_Lint_Lint_slices_Equal_Lint_int_1 N N (s2, (s1, ((((List.length s1) : Nat) : Int), (0 : Int))))) fun z1 =>
    (match z1 with
    | .inl zy2 => some true
    | .inr zy3 => some zy3)) := by kernel_rfl
theorem c_slices_EqualFunc_LLint_LLint_Lint_Lint_slices_Equal_Lint_int_ok (N : Nat) : (c_slices_EqualFunc_LLint_LLint_Lint_Lint_slices_Equal_Lint_int N).ok Try.prog := exF_ok (T := T) (CT := ct_slices_EqualFunc_LLint_LLint_Lint_Lint_slices_Equal_Lint_int) (N := N) (fun M => ⟨tOk, (ctAll_cons (c_slices_Equal_Lint_int_ok M) ctAll_nil), mixed, bwAll⟩) Try.func98 (by kernel_rfl) (by kernel_rfl) p_slices_EqualFunc_LLint_LLint_Lint_Lint_slices_Equal_Lint_int [.h (.sl (.sl (.i .i64))), .h (.sl (.sl (.i .i64))), .k (.v (.func (.func 97) #[] #[]))] [] [(.sl (.sl (.i .i64))), (.sl (.sl (.i .i64)))] r_slices_EqualFunc_LLint_LLint_Lint_Lint_slices_Equal_Lint_int false true [] (by kernel_rfl) (fun y => by kernel_rfl) (fun _ => ⟨rfl, rfl⟩) (fun y => by kernel_rfl) (m_slices_EqualFunc_LLint_LLint_Lint_Lint_slices_Equal_Lint_int N) (fun x => by kernel_rfl)
noncomputable def ct_tower_Same (N : Nat) : List Ctr := [c_slices_Equal_Lint_int N, c_slices_EqualFunc_LLint_LLint_Lint_Lint_slices_Equal_Lint_int N]
def p_tower_Same : Pl := .z
def r_tower_Same : PS := ⟨[(4, .h .b)], [], [.b]⟩
noncomputable def m_tower_Same (N : Nat) : (List Int) × (List Int) × (List (List Int)) × (List Int) × (List Int) × (List (List Int)) → Option (Bool) := exF T ct_tower_Same N (bodyOf Try.f76) 24 p_tower_Same [.ag [.h (.sl (.i .i64)), .h (.sl (.i .i64)), .h (.sl (.sl (.i .i64)))], .ag [.h (.sl (.i .i64)), .h (.sl (.i .i64)), .h (.sl (.sl (.i .i64)))]] [] [(.sl (.i .i64)), (.sl (.i .i64)), (.sl (.sl (.i .i64))), (.sl (.i .i64)), (.sl (.i .i64)), (.sl (.sl (.i .i64)))] r_tower_Same
noncomputable def c_tower_Same (N : Nat) : Ctr := ⟨76, [.ag [.h (.sl (.i .i64)), .h (.sl (.i .i64)), .h (.sl (.sl (.i .i64)))], .ag [.h (.sl (.i .i64)), .h (.sl (.i .i64)), .h (.sl (.sl (.i .i64)))]], [], [(.sl (.i .i64)), (.sl (.i .i64)), (.sl (.sl (.i .i64))), (.sl (.i .i64)), (.sl (.i .i64)), (.sl (.sl (.i .i64)))], Tup r_tower_Same.c, m_tower_Same N, fun y _ k => k (resG T (mkPS 24 r_tower_Same y) Try.f76.results.toList) (keepH' [] (mkPS 24 r_tower_Same y).h), false, true⟩
theorem m_tower_Same_eq (N : Nat) (a : (List Int)) (a2 : (List Int)) (a3 : (List (List Int))) (b : (List Int)) (b2 : (List Int)) (b3 : (List (List Int))) : m_tower_Same (N + 1) (a, a2, a3, b, b2, b3) = obind (m_slices_Equal_Lint_int N (a, b)) fun z1 =>
  cond z1
   (obind (m_slices_Equal_Lint_int N (a2, b2)) fun z2 =>
    cond z2
     (obind (m_slices_EqualFunc_LLint_LLint_Lint_Lint_slices_Equal_Lint_int N (a3, b3)) fun z3 =>
      some z3)
     (some false))
   (some false) := by kernel_rfl
theorem c_tower_Same_ok (N : Nat) : (c_tower_Same N).ok Try.prog := exF_ok (T := T) (CT := ct_tower_Same) (N := N) (fun M => ⟨tOk, (ctAll_cons (c_slices_Equal_Lint_int_ok M) (ctAll_cons (c_slices_EqualFunc_LLint_LLint_Lint_Lint_slices_Equal_Lint_int_ok M) ctAll_nil)), mixed, bwAll⟩) Try.func76 (by kernel_rfl) (by kernel_rfl) p_tower_Same [.ag [.h (.sl (.i .i64)), .h (.sl (.i .i64)), .h (.sl (.sl (.i .i64)))], .ag [.h (.sl (.i .i64)), .h (.sl (.i .i64)), .h (.sl (.sl (.i .i64)))]] [] [(.sl (.i .i64)), (.sl (.i .i64)), (.sl (.sl (.i .i64))), (.sl (.i .i64)), (.sl (.i .i64)), (.sl (.sl (.i .i64)))] r_tower_Same false true [] (by kernel_rfl) (fun y => by kernel_rfl) (fun _ => ⟨rfl, rfl⟩) (fun y => by kernel_rfl) (m_tower_Same N) (fun x => by kernel_rfl)
noncomputable def ct_tower_Right (N : Nat) : List Ctr := [c_tower_Build N, c_tower_Same N]
def p_tower_Right : Pl := .z
def r_tower_Right : PS := ⟨[(2, .h .b)], [], [.b]⟩
noncomputable def m_tower_Right (N : Nat) : (List Int) × (List Int) × (List (List Int)) → Option (Bool) := exF T ct_tower_Right N (bodyOf Try.f52) 20 p_tower_Right [.ag [.h (.sl (.i .i64)), .h (.sl (.i .i64)), .h (.sl (.sl (.i .i64)))]] [] [(.sl (.i .i64)), (.sl (.i .i64)), (.sl (.sl (.i .i64)))] r_tower_Right
noncomputable def c_tower_Right (N : Nat) : Ctr := ⟨52, [.ag [.h (.sl (.i .i64)), .h (.sl (.i .i64)), .h (.sl (.sl (.i .i64)))]], [], [(.sl (.i .i64)), (.sl (.i .i64)), (.sl (.sl (.i .i64)))], Tup r_tower_Right.c, m_tower_Right N, fun y _ k => k (resG T (mkPS 20 r_tower_Right y) Try.f52.results.toList) (keepH' [] (mkPS 20 r_tower_Right y).h), false, true⟩
theorem m_tower_Right_eq (N : Nat) (t : (List Int)) (t2 : (List Int)) (t3 : (List (List Int))) : m_tower_Right (N + 1) (t, t2, t3) = obind (m_tower_Build N (t, t2)) fun z1 =>
  cond (decide (z1.1 = (0 : Int)))
   (obind (m_tower_Same N (z1.2.1, (z1.2.2.1, (z1.2.2.2, (t, (t2, t3)))))) fun z2 =>
    some z2)
   (some false) := by kernel_rfl
theorem c_tower_Right_ok (N : Nat) : (c_tower_Right N).ok Try.prog := exF_ok (T := T) (CT := ct_tower_Right) (N := N) (fun M => ⟨tOk, (ctAll_cons (c_tower_Build_ok M) (ctAll_cons (c_tower_Same_ok M) ctAll_nil)), mixed, bwAll⟩) Try.func52 (by kernel_rfl) (by kernel_rfl) p_tower_Right [.ag [.h (.sl (.i .i64)), .h (.sl (.i .i64)), .h (.sl (.sl (.i .i64)))]] [] [(.sl (.i .i64)), (.sl (.i .i64)), (.sl (.sl (.i .i64)))] r_tower_Right false true [] (by kernel_rfl) (fun y => by kernel_rfl) (fun _ => ⟨rfl, rfl⟩) (fun y => by kernel_rfl) (m_tower_Right N) (fun x => by kernel_rfl)
noncomputable def ct_slices_Clip_Lint_int (N : Nat) : List Ctr := []
def p_slices_Clip_Lint_int : Pl := .z
def r_slices_Clip_Lint_int : PS := ⟨[(2, .t (.i .i64))], [], [(.sl (.i .i64))]⟩
noncomputable def m_slices_Clip_Lint_int (N : Nat) : (List Int) → Option ((List Int)) := exF T ct_slices_Clip_Lint_int N (bodyOf Try.f70) 9 p_slices_Clip_Lint_int [.h (.sl (.i .i64))] [] [(.sl (.i .i64))] r_slices_Clip_Lint_int
noncomputable def c_slices_Clip_Lint_int (N : Nat) : Ctr := ⟨70, [.h (.sl (.i .i64))], [], [(.sl (.i .i64))], Tup r_slices_Clip_Lint_int.c, m_slices_Clip_Lint_int N, fun y _ k => k (resG T (mkPS 9 r_slices_Clip_Lint_int y) Try.f70.results.toList) (keepH' [] (mkPS 9 r_slices_Clip_Lint_int y).h), false, false⟩
theorem m_slices_Clip_Lint_int_eq (N : Nat) (s : (List Int)) : m_slices_Clip_Lint_int (N + 1) (s) = obind (subM s (0 : Int) (((List.length s) : Nat) : Int) (((List.length s) : Nat) : Int)) fun z1 =>
  cond (decide ((((List.length s) : Nat) : Int) = (((List.length s) : Nat) : Int)))
   (some z1)
   (none) := by kernel_rfl
theorem c_slices_Clip_Lint_int_ok (N : Nat) : (c_slices_Clip_Lint_int N).ok Try.prog := exF_ok (T := T) (CT := ct_slices_Clip_Lint_int) (N := N) (fun M => ⟨tOk, ctAll_nil, mixed, bwAll⟩) Try.func70 (by kernel_rfl) (by kernel_rfl) p_slices_Clip_Lint_int [.h (.sl (.i .i64))] [] [(.sl (.i .i64))] r_slices_Clip_Lint_int false false [] (by kernel_rfl) (fun y => by kernel_rfl) (fun _ => ⟨rfl, rfl⟩) (fun y => by kernel_rfl) (m_slices_Clip_Lint_int N) (fun x => by kernel_rfl)
noncomputable def ct_pool_Take (N : Nat) : List Ctr := [c_pool_Right N, c_slices_Clip_Lint_int N, c_slices_Clone_Lint_int N]
def p_pool_Take : Pl := .z
def r_pool_Take : PS := ⟨[(2, .k (.pt 900 0)), (3, .k (.pt 901 0)), (4, .h (.i .i64))], [(900, .box 24 [.h (.sl (.i .i64)), .h (.sl (.i .i64))]), (901, .box 29 [.h (.i .i64), .h (.i .i64)])], [(.i .i64), (.sl (.i .i64)), (.sl (.i .i64)), (.i .i64), (.i .i64)]⟩
noncomputable def m_pool_Take (N : Nat) : (List Int) × (List Int) → Option (Int × (List Int) × (List Int) × Int × Int) := exF T ct_pool_Take N (bodyOf Try.f77) 62 p_pool_Take [.ag [.h (.sl (.i .i64)), .h (.sl (.i .i64))]] [] [(.sl (.i .i64)), (.sl (.i .i64))] r_pool_Take
noncomputable def c_pool_Take (N : Nat) : Ctr := ⟨77, [.ag [.h (.sl (.i .i64)), .h (.sl (.i .i64))]], [], [(.sl (.i .i64)), (.sl (.i .i64))], Tup r_pool_Take.c, m_pool_Take N, fun y _ k => k (resG T (mkPS 62 r_pool_Take y) Try.f77.results.toList) (keepH' [] (mkPS 62 r_pool_Take y).h), false, false⟩
theorem m_pool_Take_eq (N : Nat) (p : (List Int)) (p2 : (List Int)) : m_pool_Take (N + 1) (p, p2) = obind (m_pool_Right N (p, p2)) fun z1 =>
  cond (!z1)
   (some ((1 : Int), (p, (p2, ((0 : Int), (0 : Int))))))
   (cond (decide ((IntKind.wrap .i64 ((((List.length p2) : Nat) : Int) - (1 : Int))) < (0 : Int)))
     (some ((2 : Int), (p, (p2, ((0 : Int), (0 : Int))))))
     (obind (nthI p2 (IntKind.wrap .i64 ((((List.length p2) : Nat) : Int) - (1 : Int)))) fun z2 =>
      obind (nthI p z2) fun z3 =>
      cond (decide (z3 = (1073741824 : Int)))
       (some ((2 : Int), (p, (p2, ((0 : Int), (0 : Int))))))
       (obind (nthI p2 (IntKind.wrap .i64 ((((List.length p2) : Nat) : Int) - (1 : Int)))) fun z4 =>
        obind (subI p2 (0 : Int) (IntKind.wrap .i64 ((((List.length p2) : Nat) : Int) - (1 : Int)))) fun z5 =>
        obind (m_slices_Clip_Lint_int N z5) fun z6 =>
        obind (m_slices_Clone_Lint_int N p) fun z7 =>
        obind (nthI z7 z4) fun z8 =>
        obind (nthI z7 z4) fun z9 =>
        obind (nthI z7 z4) fun z10 =>
        obind (nthI z7 z4) fun z11 =>
        obind (nthI (List.set z7 (Int.toNat z4) (IntKind.wrap .i64 (z9 + (1 : Int)))) z4) fun z12 =>
        obind (nthI (List.set z7 (Int.toNat z4) (IntKind.wrap .i64 (z9 + (1 : Int)))) z4) fun z13 =>
        some ((0 : Int), ((List.set z7 (Int.toNat z4) (IntKind.wrap .i64 (z9 + (1 : Int)))), (z6, (z4, z13))))))) := by kernel_rfl
theorem c_pool_Take_ok (N : Nat) : (c_pool_Take N).ok Try.prog := exF_ok (T := T) (CT := ct_pool_Take) (N := N) (fun M => ⟨tOk, (ctAll_cons (c_pool_Right_ok M) (ctAll_cons (c_slices_Clip_Lint_int_ok M) (ctAll_cons (c_slices_Clone_Lint_int_ok M) ctAll_nil))), mixed, bwAll⟩) Try.func77 (by kernel_rfl) (by kernel_rfl) p_pool_Take [.ag [.h (.sl (.i .i64)), .h (.sl (.i .i64))]] [] [(.sl (.i .i64)), (.sl (.i .i64))] r_pool_Take false false [] (by kernel_rfl) (fun y => by kernel_rfl) (fun _ => ⟨rfl, rfl⟩) (fun y => by kernel_rfl) (m_pool_Take N) (fun x => by kernel_rfl)
noncomputable def ct_store_taken (N : Nat) : List Ctr := [c_pool_Take N]
def i_store_taken_1 : PS := ⟨[(2, .k (.pt 900 0)), (4, .k (.pt 901 0)), (5, .k (.ow 902)), (8, .h (.i .i64)), (9, .h (.i .i64))], [(900, .box 24 [.h (.sl (.i .i64)), .h (.sl (.i .i64))]), (901, .box 24 [.k .nil, .k .nil]), (902, .arr 29 (.pr (.i .i64) (.i .i64)) true)], [(.i .i64), (.i .i64), (.sl (.i .i64)), (.sl (.i .i64)), (.sl (.pr (.i .i64) (.i .i64)))]⟩
def o_store_taken_1 : List (Exit × PS) := [((.exit 0), ⟨[(2, .k (.pt 900 0)), (4, .k (.pt 901 0)), (5, .k (.ow 902))], [(900, .box 24 [.h (.sl (.i .i64)), .h (.sl (.i .i64))]), (901, .box 24 [.k .nil, .k .nil]), (902, .arr 29 (.pr (.i .i64) (.i .i64)) true)], [(.sl (.i .i64)), (.sl (.i .i64)), (.sl (.pr (.i .i64) (.i .i64)))]⟩), (.ret, ⟨[(4, .k (.pt 900 0)), (5, .k .nil), (6, .h (.i .i64))], [(900, .box 24 [.h (.sl (.i .i64)), .h (.sl (.i .i64))])], [(.i .i64), (.sl (.i .i64)), (.sl (.i .i64))]⟩)]
def p_store_taken_1 : Pl := .z
noncomputable def l_store_taken_1 (N : Nat) : Nat → Int × Int × (List Int) × (List Int) × (List (Int × Int)) → Option (((List Int) × (List Int) × (List (Int × Int))) ⊕ (Int × (List Int) × (List Int))) := loopF (exC T (ct_store_taken N) N (codeAt [1, 0, 1, 0, 0] (bodyOf Try.f53))) 28 i_store_taken_1 o_store_taken_1 p_store_taken_1
def p_store_taken : Pl := (.n .z (.n (.n .z (.n (.loop i_store_taken_1 o_store_taken_1 p_store_taken_1) .z)) .z))
def r_store_taken : PS := ⟨[(4, .k (.pt 900 0)), (5, .k (.ow 901)), (6, .h (.i .i64))], [(900, .box 24 [.h (.sl (.i .i64)), .h (.sl (.i .i64))]), (901, .arr 29 (.pr (.i .i64) (.i .i64)) true)], [(.i .i64), (.sl (.i .i64)), (.sl (.i .i64)), (.sl (.pr (.i .i64) (.i .i64)))]⟩
noncomputable def m_store_taken (N : Nat) : (List Int) × (List Int) × Int → Option (Int × (List Int) × (List Int) × (List (Int × Int))) := exF T ct_store_taken N (bodyOf Try.f53) 28 p_store_taken [.ag [.h (.sl (.i .i64)), .h (.sl (.i .i64))], .h (.i .i64)] [] [(.sl (.i .i64)), (.sl (.i .i64)), (.i .i64)] r_store_taken
noncomputable def c_store_taken (N : Nat) : Ctr := ⟨53, [.ag [.h (.sl (.i .i64)), .h (.sl (.i .i64))], .h (.i .i64)], [], [(.sl (.i .i64)), (.sl (.i .i64)), (.i .i64)], Tup r_store_taken.c, m_store_taken N, fun y _ k => k (resG T (mkPS 28 r_store_taken y) Try.f53.results.toList) (keepH' [901] (mkPS 28 r_store_taken y).h), true, false⟩
theorem l_store_taken_1_s (N m : Nat) (v8 : Int) (v9 : Int) (p : (List Int)) (p2 : (List Int)) (l : (List (Int × Int))) : l_store_taken_1 N (m + 1) (v8, v9, p, p2, l) = cond (decide (v9 < v8))
   (obind (m_pool_Take N (p, p2)) fun z1 =>
    cond (!(decide (z1.1 = (0 : Int))))
     (some (.inr (z1.1, (z1.2.1, z1.2.2.1))))
     (obind (appI (16 : Nat) l [(z1.2.2.2.1, z1.2.2.2.2)]) fun z2 =>
      (l_store_taken_1 N m (v8, ((IntKind.wrap .i64 (v9 + (1 : Int))), (z1.2.1, (z1.2.2.1, z2)))))))
   (some (.inl (p, (p2, l)))) := by kernel_rfl
theorem m_store_taken_eq (N : Nat) (p : (List Int)) (p2 : (List Int)) (n : Int) : m_store_taken (N + 1) (p, p2, n) = obind (l_store_taken_1 N N (n, ((0 : Int), (p, (p2, []))))) fun z1 =>
  (match z1 with
  | .inl zy2 => some ((0 : Int), (zy2.1, (zy2.2.1, zy2.2.2)))
  | .inr zy3 => some (zy3.1, (zy3.2.1, (zy3.2.2, [])))) := by kernel_rfl
theorem c_store_taken_ok (N : Nat) : (c_store_taken N).ok Try.prog := exF_ok (T := T) (CT := ct_store_taken) (N := N) (fun M => ⟨tOk, (ctAll_cons (c_pool_Take_ok M) ctAll_nil), mixed, bwAll⟩) Try.func53 (by kernel_rfl) (by kernel_rfl) p_store_taken [.ag [.h (.sl (.i .i64)), .h (.sl (.i .i64))], .h (.i .i64)] [] [(.sl (.i .i64)), (.sl (.i .i64)), (.i .i64)] r_store_taken true false [901] (by kernel_rfl) (fun y => by kernel_rfl) (fun h => by cases h) (fun y => by kernel_rfl) (m_store_taken N) (fun x => by kernel_rfl)
noncomputable def ct_slices_Clone_Lapi_Node_api_Node (N : Nat) : List Ctr := []
def p_slices_Clone_Lapi_Node_api_Node : Pl := .z
def r_slices_Clone_Lapi_Node_api_Node : PS := ⟨[(2, .k (.ow 900))], [(900, .arr 75 (.pr (.i .i64) (.pr (.i .i64) (.sl (.pr (.i .i64) (.i .i64))))) true)], [(.sl (.pr (.i .i64) (.pr (.i .i64) (.sl (.pr (.i .i64) (.i .i64))))))]⟩
noncomputable def m_slices_Clone_Lapi_Node_api_Node (N : Nat) : (List (Int × (Int × (List (Int × Int))))) → Option ((List (Int × (Int × (List (Int × Int)))))) := exF T ct_slices_Clone_Lapi_Node_api_Node N (bodyOf Try.f40) 8 p_slices_Clone_Lapi_Node_api_Node [.h (.sl (.pr (.i .i64) (.pr (.i .i64) (.sl (.pr (.i .i64) (.i .i64))))))] [] [(.sl (.pr (.i .i64) (.pr (.i .i64) (.sl (.pr (.i .i64) (.i .i64))))))] r_slices_Clone_Lapi_Node_api_Node
noncomputable def c_slices_Clone_Lapi_Node_api_Node (N : Nat) : Ctr := ⟨40, [.h (.sl (.pr (.i .i64) (.pr (.i .i64) (.sl (.pr (.i .i64) (.i .i64))))))], [], [(.sl (.pr (.i .i64) (.pr (.i .i64) (.sl (.pr (.i .i64) (.i .i64))))))], Tup r_slices_Clone_Lapi_Node_api_Node.c, m_slices_Clone_Lapi_Node_api_Node N, fun y _ k => k (resG T (mkPS 8 r_slices_Clone_Lapi_Node_api_Node y) Try.f40.results.toList) (keepH' [900] (mkPS 8 r_slices_Clone_Lapi_Node_api_Node y).h), true, false⟩
theorem m_slices_Clone_Lapi_Node_api_Node_eq (N : Nat) (s : (List (Int × (Int × (List (Int × Int)))))) : m_slices_Clone_Lapi_Node_api_Node (N + 1) (s) = cond (isNilB s)
   (dem fun zb1 =>
    cond zb1
     (some [])
     (obind (appI (40 : Nat) [] s) fun z2 =>
      some z2))
   (obind (appI (40 : Nat) [] s) fun z3 =>
    some z3) := by kernel_rfl
theorem c_slices_Clone_Lapi_Node_api_Node_ok (N : Nat) : (c_slices_Clone_Lapi_Node_api_Node N).ok Try.prog := exF_ok (T := T) (CT := ct_slices_Clone_Lapi_Node_api_Node) (N := N) (fun M => ⟨tOk, ctAll_nil, mixed, bwAll⟩) Try.func40 (by kernel_rfl) (by kernel_rfl) p_slices_Clone_Lapi_Node_api_Node [.h (.sl (.pr (.i .i64) (.pr (.i .i64) (.sl (.pr (.i .i64) (.i .i64))))))] [] [(.sl (.pr (.i .i64) (.pr (.i .i64) (.sl (.pr (.i .i64) (.i .i64))))))] r_slices_Clone_Lapi_Node_api_Node true false [900] (by kernel_rfl) (fun y => by kernel_rfl) (fun h => by cases h) (fun y => by kernel_rfl) (m_slices_Clone_Lapi_Node_api_Node N) (fun x => by kernel_rfl)
noncomputable def ct_store_Put (N : Nat) : List Ctr := [c_store_Right N, c_tower_Right N, c_store_taken N, c_slices_Clone_Lapi_Node_api_Node N]
def i_store_Put_2 : PS := ⟨[(3, .k (.pt 900 0)), (4, .k (.pt 901 0)), (5, .k (.pt 902 0)), (7, .k (.pt 903 0)), (8, .k (.ow 904)), (10, .k (.ow 905)), (12, .k (.pt 906 0)), (13, .k (.pt 907 0)), (44, .k (.ow 904)), (45, .h (.i .i64)), (46, .h (.i .i64)), (66, .h (.sl (.i .i64))), (67, .h (.i .i64)), (68, .h (.i .i64))], [(900, .box 35 [.h (.sl (.i .i64)), .h (.sl (.i .i64)), .h (.sl (.sl (.i .i64)))]), (901, .box 27 [.k .nil, .k .nil, .k .nil]), (902, .box 29 [.h (.i .i64), .h (.i .i64)]), (903, .box 24 [.h (.sl (.i .i64)), .h (.sl (.i .i64))]), (904, .arr 29 (.pr (.i .i64) (.i .i64)) true), (905, .arr 75 (.pr (.i .i64) (.pr (.i .i64) (.sl (.pr (.i .i64) (.i .i64))))) true), (906, .box 29 [.h (.i .i64), .h (.i .i64)]), (907, .box 75 [.h (.i .i64), .h (.i .i64), .k (.ow 908)]), (908, .arr 29 (.pr (.i .i64) (.i .i64)) true)], [(.i .i64), (.i .i64), (.sl (.i .i64)), (.i .i64), (.i .i64), (.sl (.i .i64)), (.sl (.i .i64)), (.sl (.sl (.i .i64))), (.i .i64), (.i .i64), (.sl (.i .i64)), (.sl (.i .i64)), (.sl (.pr (.i .i64) (.i .i64))), (.sl (.pr (.i .i64) (.pr (.i .i64) (.sl (.pr (.i .i64) (.i .i64)))))), (.i .i64), (.i .i64), (.i .i64), (.i .i64), (.sl (.pr (.i .i64) (.i .i64)))]⟩
def o_store_Put_2 : List (Exit × PS) := [((.exit 2), ⟨[(3, .k (.pt 900 0)), (4, .k (.pt 901 0)), (5, .k (.pt 902 0)), (7, .k (.pt 903 0)), (8, .k (.ow 904)), (10, .k (.ow 905)), (12, .k (.pt 906 0)), (13, .k (.pt 907 0)), (44, .k (.ow 904)), (45, .h (.i .i64)), (46, .h (.i .i64))], [(900, .box 35 [.h (.sl (.i .i64)), .h (.sl (.i .i64)), .h (.sl (.sl (.i .i64)))]), (901, .box 27 [.k .nil, .k .nil, .k .nil]), (902, .box 29 [.h (.i .i64), .h (.i .i64)]), (903, .box 24 [.h (.sl (.i .i64)), .h (.sl (.i .i64))]), (904, .arr 29 (.pr (.i .i64) (.i .i64)) true), (905, .arr 75 (.pr (.i .i64) (.pr (.i .i64) (.sl (.pr (.i .i64) (.i .i64))))) true), (906, .box 29 [.h (.i .i64), .h (.i .i64)]), (907, .box 75 [.h (.i .i64), .h (.i .i64), .k (.ow 908)]), (908, .arr 29 (.pr (.i .i64) (.i .i64)) true)], [(.i .i64), (.i .i64), (.sl (.i .i64)), (.sl (.i .i64)), (.sl (.sl (.i .i64))), (.i .i64), (.i .i64), (.sl (.i .i64)), (.sl (.i .i64)), (.sl (.pr (.i .i64) (.i .i64))), (.sl (.pr (.i .i64) (.pr (.i .i64) (.sl (.pr (.i .i64) (.i .i64)))))), (.i .i64), (.i .i64), (.i .i64), (.i .i64), (.sl (.pr (.i .i64) (.i .i64)))]⟩)]
def p_store_Put_2 : Pl := .z
noncomputable def l_store_Put_2 (N : Nat) : Nat → Int × Int × (List Int) × Int × Int × (List Int) × (List Int) × (List (List Int)) × Int × Int × (List Int) × (List Int) × (List (Int × Int)) × (List (Int × (Int × (List (Int × Int))))) × Int × Int × Int × Int × (List (Int × Int)) → Option (Int × Int × (List Int) × (List Int) × (List (List Int)) × Int × Int × (List Int) × (List Int) × (List (Int × Int)) × (List (Int × (Int × (List (Int × Int))))) × Int × Int × Int × Int × (List (Int × Int))) := loopF (exC T (ct_store_Put N) N (codeAt [1, 1, 1, 1, 1, 0, 1, 0, 0, 1, 1, 0, 0, 1, 1, 0, 1, 0, 0] (bodyOf Try.f21))) 94 i_store_Put_2 o_store_Put_2 p_store_Put_2
def i_store_Put_1 : PS := ⟨[(3, .k (.pt 900 0)), (4, .k (.pt 901 0)), (5, .k (.pt 902 0)), (7, .k (.pt 903 0)), (8, .k (.ow 904)), (10, .k (.ow 905)), (44, .k (.ow 904)), (45, .h (.i .i64)), (46, .h (.i .i64))], [(900, .box 35 [.h (.sl (.i .i64)), .h (.sl (.i .i64)), .h (.sl (.sl (.i .i64)))]), (901, .box 27 [.k .nil, .k .nil, .k .nil]), (902, .box 29 [.h (.i .i64), .h (.i .i64)]), (903, .box 24 [.h (.sl (.i .i64)), .h (.sl (.i .i64))]), (904, .arr 29 (.pr (.i .i64) (.i .i64)) true), (905, .arr 75 (.pr (.i .i64) (.pr (.i .i64) (.sl (.pr (.i .i64) (.i .i64))))) true)], [(.i .i64), (.i .i64), (.sl (.i .i64)), (.sl (.i .i64)), (.sl (.sl (.i .i64))), (.i .i64), (.i .i64), (.sl (.i .i64)), (.sl (.i .i64)), (.sl (.pr (.i .i64) (.i .i64))), (.sl (.pr (.i .i64) (.pr (.i .i64) (.sl (.pr (.i .i64) (.i .i64))))))]⟩
def o_store_Put_1 : List (Exit × PS) := [((.exit 0), ⟨[(4, .k (.pt 900 0)), (5, .k (.pt 901 0)), (7, .k (.pt 902 0)), (8, .k (.ow 903)), (10, .k (.ow 904))], [(900, .box 27 [.k .nil, .k .nil, .k .nil]), (901, .box 29 [.h (.i .i64), .h (.i .i64)]), (902, .box 24 [.h (.sl (.i .i64)), .h (.sl (.i .i64))]), (903, .arr 29 (.pr (.i .i64) (.i .i64)) true), (904, .arr 75 (.pr (.i .i64) (.pr (.i .i64) (.sl (.pr (.i .i64) (.i .i64))))) true)], [(.i .i64), (.i .i64), (.sl (.i .i64)), (.sl (.i .i64)), (.sl (.pr (.i .i64) (.i .i64))), (.sl (.pr (.i .i64) (.pr (.i .i64) (.sl (.pr (.i .i64) (.i .i64))))))]⟩)]
def p_store_Put_1 : Pl := (.n .z (.n .z (.n (.n (.n .z (.n .z (.n (.n .z (.n (.loop i_store_Put_2 o_store_Put_2 p_store_Put_2) .z)) .z))) .z) .z)))
noncomputable def l_store_Put_1 (N : Nat) : Nat → Int × Int × (List Int) × (List Int) × (List (List Int)) × Int × Int × (List Int) × (List Int) × (List (Int × Int)) × (List (Int × (Int × (List (Int × Int))))) → Option (Int × Int × (List Int) × (List Int) × (List (Int × Int)) × (List (Int × (Int × (List (Int × Int)))))) := loopF (exC T (ct_store_Put N) N (codeAt [1, 1, 1, 1, 1, 0, 1, 0, 0] (bodyOf Try.f21))) 94 i_store_Put_1 o_store_Put_1 p_store_Put_1
def p_store_Put : Pl := (.n .z (.n .z (.n .z (.n .z (.n .z (.n (.n .z (.n (.loop i_store_Put_1 o_store_Put_1 p_store_Put_1) .z)) .z))))))
def r_store_Put : PS := ⟨[(4, .k (.pt 900 0)), (5, .k (.pt 901 0)), (6, .h (.i .i64))], [(900, .box 27 [.h (.sl (.i .i64)), .h (.sl (.i .i64)), .h (.sl (.pr (.i .i64) (.pr (.i .i64) (.sl (.pr (.i .i64) (.i .i64))))))]), (901, .box 29 [.h (.i .i64), .h (.i .i64)])], [(.i .i64), (.sl (.i .i64)), (.sl (.i .i64)), (.sl (.pr (.i .i64) (.pr (.i .i64) (.sl (.pr (.i .i64) (.i .i64)))))), (.i .i64), (.i .i64)]⟩
noncomputable def m_store_Put (N : Nat) : (List Int) × (List Int) × (List (Int × (Int × (List (Int × Int))))) × (List Int) × (List Int) × (List (List Int)) → Option (Int × (List Int) × (List Int) × (List (Int × (Int × (List (Int × Int))))) × Int × Int) := exF T ct_store_Put N (bodyOf Try.f21) 94 p_store_Put [.ag [.h (.sl (.i .i64)), .h (.sl (.i .i64)), .h (.sl (.pr (.i .i64) (.pr (.i .i64) (.sl (.pr (.i .i64) (.i .i64))))))], .ag [.h (.sl (.i .i64)), .h (.sl (.i .i64)), .h (.sl (.sl (.i .i64)))]] [] [(.sl (.i .i64)), (.sl (.i .i64)), (.sl (.pr (.i .i64) (.pr (.i .i64) (.sl (.pr (.i .i64) (.i .i64)))))), (.sl (.i .i64)), (.sl (.i .i64)), (.sl (.sl (.i .i64)))] r_store_Put
noncomputable def c_store_Put (N : Nat) : Ctr := ⟨21, [.ag [.h (.sl (.i .i64)), .h (.sl (.i .i64)), .h (.sl (.pr (.i .i64) (.pr (.i .i64) (.sl (.pr (.i .i64) (.i .i64))))))], .ag [.h (.sl (.i .i64)), .h (.sl (.i .i64)), .h (.sl (.sl (.i .i64)))]], [], [(.sl (.i .i64)), (.sl (.i .i64)), (.sl (.pr (.i .i64) (.pr (.i .i64) (.sl (.pr (.i .i64) (.i .i64)))))), (.sl (.i .i64)), (.sl (.i .i64)), (.sl (.sl (.i .i64)))], Tup r_store_Put.c, m_store_Put N, fun y _ k => k (resG T (mkPS 94 r_store_Put y) Try.f21.results.toList) (keepH' [] (mkPS 94 r_store_Put y).h), false, false⟩
theorem l_store_Put_2_s (N m : Nat) (v45 : Int) (v46 : Int) (v66 : (List Int)) (v67 : Int) (v68 : Int) (t : (List Int)) (t2 : (List Int)) (t3 : (List (List Int))) (v5 : Int) (v52 : Int) (p : (List Int)) (p2 : (List Int)) (l : (List (Int × Int))) (nodes : (List (Int × (Int × (List (Int × Int)))))) (h : Int) (h2 : Int) (x : Int) (x2 : Int) (v908 : (List (Int × Int))) : l_store_Put_2 N (m + 1) (v45, v46, v66, v67, v68, t, t2, t3, v5, v52, p, p2, l, nodes, h, h2, x, x2, v908) = cond (decide (v68 < v67))
   (obind (nthI v66 v68) fun z1 =>
    obind (nthI l z1) fun z2 =>
    obind (nthI l z1) fun z3 =>
    obind (appI (16 : Nat) v908 [(z3.1, z3.2)]) fun z4 =>
    (l_store_Put_2 N m (v45, (v46, (v66, (v67, ((IntKind.wrap .i64 (v68 + (1 : Int))), (t, (t2, (t3, (v5, (v52, (p, (p2, (l, (nodes, (h, (h2, (x, (x2, z4))))))))))))))))))))
   (some (v45, (v46, (t, (t2, (t3, (v5, (v52, (p, (p2, (l, (nodes, (h, (h2, (x, (x2, v908)))))))))))))))) := by kernel_rfl
theorem l_store_Put_1_s (N m : Nat) (v45 : Int) (v46 : Int) (t : (List Int)) (t2 : (List Int)) (t3 : (List (List Int))) (v5 : Int) (v52 : Int) (p : (List Int)) (p2 : (List Int)) (l : (List (Int × Int))) (nodes : (List (Int × (Int × (List (Int × Int)))))) : l_store_Put_1 N (m + 1) (v45, v46, t, t2, t3, v5, v52, p, p2, l, nodes) = cond (decide (v46 < v45))
   (obind (nthI l v46) fun z1 =>
    obind (nthI l v46) fun z2 =>
    obind (nthI t v46) fun z3 =>
    obind (nthI t2 v46) fun z4 =>
    obind (nthI t3 v46) fun z5 =>
    obind (l_store_Put_2 N N (v45, (v46, (z5, ((((List.length z5) : Nat) : Int), ((0 : Int), (t, (t2, (t3, (v5, (v52, (p, (p2, (l, (nodes, (z2.1, (z2.2, (z3, (z4, []))))))))))))))))))) fun z6 =>
    obind (nthI z6.2.2.2.2.2.2.2.2.2.2.1 z6.2.2.2.2.2.2.2.2.2.2.2.1) fun z7 =>
    obind (nthI z6.2.2.2.2.2.2.2.2.2.2.1 z6.2.2.2.2.2.2.2.2.2.2.2.1) fun z8 =>
    (l_store_Put_1 N m (z6.1, ((IntKind.wrap .i64 (z6.2.1 + (1 : Int))), (z6.2.2.1, (z6.2.2.2.1, (z6.2.2.2.2.1, (z6.2.2.2.2.2.1, (z6.2.2.2.2.2.2.1, (z6.2.2.2.2.2.2.2.1, (z6.2.2.2.2.2.2.2.2.1, (z6.2.2.2.2.2.2.2.2.2.1, (List.set z6.2.2.2.2.2.2.2.2.2.2.1 (Int.toNat z6.2.2.2.2.2.2.2.2.2.2.2.1) (z6.2.2.2.2.2.2.2.2.2.2.2.2.2.1, (z6.2.2.2.2.2.2.2.2.2.2.2.2.2.2.1, z6.2.2.2.2.2.2.2.2.2.2.2.2.2.2.2)))))))))))))))
   (some (v5, (v52, (p, (p2, (l, nodes)))))) := by kernel_rfl
theorem m_store_Put_eq (N : Nat) (s : (List Int)) (s2 : (List Int)) (s3 : (List (Int × (Int × (List (Int × Int)))))) (t : (List Int)) (t2 : (List Int)) (t3 : (List (List Int))) : m_store_Put (N + 1) (s, s2, s3, t, t2, t3) = obind (m_store_Right N (s, (s2, s3))) fun z1 =>
  cond (!z1)
   (some ((1 : Int), (s, (s2, (s3, ((0 : Int), (0 : Int)))))))
   (obind (m_tower_Right N (t, (t2, t3))) fun z2 =>
    cond (!z2)
     (some ((1 : Int), (s, (s2, (s3, ((0 : Int), (0 : Int)))))))
     (obind (m_store_taken N (s, (s2, (((List.length t) : Nat) : Int)))) fun z3 =>
      cond (!(decide (z3.1 = (0 : Int))))
       (some (z3.1, (s, (s2, (s3, ((0 : Int), (0 : Int)))))))
       (obind (m_slices_Clone_Lapi_Node_api_Node N s3) fun z4 =>
        obind (l_store_Put_1 N N ((((List.length z3.2.2.2) : Nat) : Int), ((0 : Int), (t, (t2, (t3, ((0 : Int), ((0 : Int), (z3.2.1, (z3.2.2.1, (z3.2.2.2, z4))))))))))) fun z5 =>
        obind (nthI z5.2.2.2.2.1 (0 : Int)) fun z6 =>
        obind (nthI z5.2.2.2.2.1 (0 : Int)) fun z7 =>
        some ((0 : Int), (z5.2.2.1, (z5.2.2.2.1, (z5.2.2.2.2.2, (z7.1, z7.2)))))))) := by kernel_rfl
theorem c_store_Put_ok (N : Nat) : (c_store_Put N).ok Try.prog := exF_ok (T := T) (CT := ct_store_Put) (N := N) (fun M => ⟨tOk, (ctAll_cons (c_store_Right_ok M) (ctAll_cons (c_tower_Right_ok M) (ctAll_cons (c_store_taken_ok M) (ctAll_cons (c_slices_Clone_Lapi_Node_api_Node_ok M) ctAll_nil)))), mixed, bwAll⟩) Try.func21 (by kernel_rfl) (by kernel_rfl) p_store_Put [.ag [.h (.sl (.i .i64)), .h (.sl (.i .i64)), .h (.sl (.pr (.i .i64) (.pr (.i .i64) (.sl (.pr (.i .i64) (.i .i64))))))], .ag [.h (.sl (.i .i64)), .h (.sl (.i .i64)), .h (.sl (.sl (.i .i64)))]] [] [(.sl (.i .i64)), (.sl (.i .i64)), (.sl (.pr (.i .i64) (.pr (.i .i64) (.sl (.pr (.i .i64) (.i .i64)))))), (.sl (.i .i64)), (.sl (.i .i64)), (.sl (.sl (.i .i64)))] r_store_Put false false [] (by kernel_rfl) (fun y => by kernel_rfl) (fun _ => ⟨rfl, rfl⟩) (fun y => by kernel_rfl) (m_store_Put N) (fun x => by kernel_rfl)
noncomputable def ct__store_trip_round_phhhnm (N : Nat) : List Ctr := []
def i__store_trip_round_phhhnm_1 : PS := ⟨[(0, .k (.pt 4294967296 0)), (3, .k (.pt 900 0))], [(4294967296, .box 80 [.h (.sl (.i .i64)), .h (.sl (.i .i64)), .h (.sl (.pr (.i .i64) (.pr (.i .i64) (.sl (.pr (.i .i64) (.i .i64)))))), .k (.ow 901), .k (.mp 4294967297)]), (900, .box 29 [.h (.i .i64), .h (.i .i64)]), (4294967297, .mp (.tuple ⟨[]⟩) (.pr (.i .i64) (.i .i64)) (.i .i64)), (901, .arr 29 (.pr (.i .i64) (.i .i64)) true)], [(.sl (.i .i64)), (.sl (.i .i64)), (.sl (.pr (.i .i64) (.pr (.i .i64) (.sl (.pr (.i .i64) (.i .i64)))))), (.i .i64), (.i .i64), (.sl (.pr (.pr (.i .i64) (.i .i64)) (.i .i64))), (.sl (.pr (.i .i64) (.i .i64)))]⟩
def o__store_trip_round_phhhnm_1 : List (Exit × PS) := [(.ret, ⟨[(4, .h (.i .i64))], [(4294967296, .box 80 [.h (.sl (.i .i64)), .h (.sl (.i .i64)), .h (.sl (.pr (.i .i64) (.pr (.i .i64) (.sl (.pr (.i .i64) (.i .i64)))))), .k (.ow 900), .k (.mp 4294967297)]), (4294967297, .mp (.tuple ⟨[]⟩) (.pr (.i .i64) (.i .i64)) (.i .i64)), (900, .arr 29 (.pr (.i .i64) (.i .i64)) true)], [(.i .i64), (.sl (.i .i64)), (.sl (.i .i64)), (.sl (.pr (.i .i64) (.pr (.i .i64) (.sl (.pr (.i .i64) (.i .i64)))))), (.sl (.pr (.pr (.i .i64) (.i .i64)) (.i .i64))), (.sl (.pr (.i .i64) (.i .i64)))]⟩)]
def p__store_trip_round_phhhnm_1 : Pl := .z
noncomputable def l__store_trip_round_phhhnm_1 (N : Nat) : Nat → (List Int) × (List Int) × (List (Int × (Int × (List (Int × Int))))) × Int × Int × (List ((Int × Int) × Int)) × (List (Int × Int)) → Option (Int × (List Int) × (List Int) × (List (Int × (Int × (List (Int × Int))))) × (List ((Int × Int) × Int)) × (List (Int × Int))) := loopF (exC T (ct__store_trip_round_phhhnm N) N (codeAt [1, 0, 0] (bodyOf Try.f35))) 50 i__store_trip_round_phhhnm_1 o__store_trip_round_phhhnm_1 p__store_trip_round_phhhnm_1
def p__store_trip_round_phhhnm : Pl := (.n .z (.n (.loop i__store_trip_round_phhhnm_1 o__store_trip_round_phhhnm_1 p__store_trip_round_phhhnm_1) .z))
def r__store_trip_round_phhhnm : PS := ⟨[(4, .h (.i .i64))], [(4294967296, .box 80 [.h (.sl (.i .i64)), .h (.sl (.i .i64)), .h (.sl (.pr (.i .i64) (.pr (.i .i64) (.sl (.pr (.i .i64) (.i .i64)))))), .k (.ow 900), .k (.mp 4294967297)]), (4294967297, .mp (.tuple ⟨[]⟩) (.pr (.i .i64) (.i .i64)) (.i .i64)), (900, .arr 29 (.pr (.i .i64) (.i .i64)) true)], [(.i .i64), (.sl (.i .i64)), (.sl (.i .i64)), (.sl (.pr (.i .i64) (.pr (.i .i64) (.sl (.pr (.i .i64) (.i .i64)))))), (.sl (.pr (.pr (.i .i64) (.i .i64)) (.i .i64))), (.sl (.pr (.i .i64) (.i .i64)))]⟩
noncomputable def m__store_trip_round_phhhnm (N : Nat) : Int × Int × (List Int) × (List Int) × (List (Int × (Int × (List (Int × Int))))) × (List ((Int × Int) × Int)) → Option (Int × (List Int) × (List Int) × (List (Int × (Int × (List (Int × Int))))) × (List ((Int × Int) × Int)) × (List (Int × Int))) := exF T ct__store_trip_round_phhhnm N (bodyOf Try.f35) 50 p__store_trip_round_phhhnm [.k (.pt 4294967296 0), .ag [.h (.i .i64), .h (.i .i64)]] [(4294967296, .box 80 [.h (.sl (.i .i64)), .h (.sl (.i .i64)), .h (.sl (.pr (.i .i64) (.pr (.i .i64) (.sl (.pr (.i .i64) (.i .i64)))))), .k .nil, .k (.mp 4294967297)]), (4294967297, .mp (.tuple ⟨[]⟩) (.pr (.i .i64) (.i .i64)) (.i .i64))] [(.i .i64), (.i .i64), (.sl (.i .i64)), (.sl (.i .i64)), (.sl (.pr (.i .i64) (.pr (.i .i64) (.sl (.pr (.i .i64) (.i .i64)))))), (.sl (.pr (.pr (.i .i64) (.i .i64)) (.i .i64)))] r__store_trip_round_phhhnm
noncomputable def c__store_trip_round_phhhnm (N : Nat) : Ctr := ⟨35, [.k (.pt 4294967296 0), .ag [.h (.i .i64), .h (.i .i64)]], [(4294967296, .box 80 [.h (.sl (.i .i64)), .h (.sl (.i .i64)), .h (.sl (.pr (.i .i64) (.pr (.i .i64) (.sl (.pr (.i .i64) (.i .i64)))))), .k .nil, .k (.mp 4294967297)]), (4294967297, .mp (.tuple ⟨[]⟩) (.pr (.i .i64) (.i .i64)) (.i .i64))], [(.i .i64), (.i .i64), (.sl (.i .i64)), (.sl (.i .i64)), (.sl (.pr (.i .i64) (.pr (.i .i64) (.sl (.pr (.i .i64) (.i .i64)))))), (.sl (.pr (.pr (.i .i64) (.i .i64)) (.i .i64)))], Tup r__store_trip_round_phhhnm.c, m__store_trip_round_phhhnm N, fun y _ k => k (resG T (mkPS 50 r__store_trip_round_phhhnm y) Try.f35.results.toList) (keepH' [4294967296, 4294967297, 900] (mkPS 50 r__store_trip_round_phhhnm y).h), true, false⟩
theorem l__store_trip_round_phhhnm_1_s (N m : Nat) (r : (List Int)) (r2 : (List Int)) (r3 : (List (Int × (Int × (List (Int × Int)))))) (h : Int) (h2 : Int) (v4294967297 : (List ((Int × Int) × Int))) (v901 : (List (Int × Int))) : l__store_trip_round_phhhnm_1 N (m + 1) (r, r2, r3, h, h2, v4294967297, v901) = cond (Option.isSome (mget (.pr (.i .i64) (.i .i64)) v4294967297 (h, h2)))
   (some ((Option.getD (mget (.pr (.i .i64) (.i .i64)) v4294967297 (h, h2)) (0 : Int)), (r, (r2, (r3, (v4294967297, v901))))))
   (obind (appI (16 : Nat) v901 [(h, h2)]) fun z1 =>
    obind (nthI r3 h) fun z2 =>
    obind (nthI z2.2.2 (0 : Int)) fun z3 =>
    (l__store_trip_round_phhhnm_1 N m (r, (r2, (r3, (z3.1, (z3.2, ((mput (.pr (.i .i64) (.i .i64)) v4294967297 (h, h2) (((List.length v901) : Nat) : Int)), z1)))))))) := by kernel_rfl
theorem m__store_trip_round_phhhnm_eq (N : Nat) (h : Int) (h2 : Int) (r : (List Int)) (r2 : (List Int)) (r3 : (List (Int × (Int × (List (Int × Int)))))) (h3 : (List ((Int × Int) × Int))) : m__store_trip_round_phhhnm (N + 1) (h, h2, r, r2, r3, h3) = obind (l__store_trip_round_phhhnm_1 N N (r, (r2, (r3, (h, (h2, (h3, []))))))) fun z1 =>
  some (z1.1, (z1.2.1, (z1.2.2.1, (z1.2.2.2.1, (z1.2.2.2.2.1, z1.2.2.2.2.2))))) := by kernel_rfl
theorem c__store_trip_round_phhhnm_ok (N : Nat) : (c__store_trip_round_phhhnm N).ok Try.prog := exF_ok (T := T) (CT := ct__store_trip_round_phhhnm) (N := N) (fun M => ⟨tOk, ctAll_nil, mixed, bwAll⟩) Try.func35 (by kernel_rfl) (by kernel_rfl) p__store_trip_round_phhhnm [.k (.pt 4294967296 0), .ag [.h (.i .i64), .h (.i .i64)]] [(4294967296, .box 80 [.h (.sl (.i .i64)), .h (.sl (.i .i64)), .h (.sl (.pr (.i .i64) (.pr (.i .i64) (.sl (.pr (.i .i64) (.i .i64)))))), .k .nil, .k (.mp 4294967297)]), (4294967297, .mp (.tuple ⟨[]⟩) (.pr (.i .i64) (.i .i64)) (.i .i64))] [(.i .i64), (.i .i64), (.sl (.i .i64)), (.sl (.i .i64)), (.sl (.pr (.i .i64) (.pr (.i .i64) (.sl (.pr (.i .i64) (.i .i64)))))), (.sl (.pr (.pr (.i .i64) (.i .i64)) (.i .i64)))] r__store_trip_round_phhhnm true false [4294967296, 4294967297, 900] (by kernel_rfl) (fun y => by kernel_rfl) (fun h => by cases h) (fun y => by kernel_rfl) (m__store_trip_round_phhhnm N) (fun x => by kernel_rfl)
noncomputable def ct__store_trip_tower_phhhom (N : Nat) : List Ctr := [c_tower_Right N]
def i__store_trip_tower_phhhom_2 : PS := ⟨[(0, .k (.pt 4294967296 0)), (2, .k (.pt 900 0)), (6, .k (.pt 901 0)), (7, .k (.ow 902)), (15, .k (.ow 4294967297)), (16, .h (.i .i64)), (17, .h (.i .i64)), (31, .h (.sl (.pr (.i .i64) (.i .i64)))), (32, .h (.i .i64)), (33, .h (.i .i64))], [(4294967296, .box 80 [.h (.sl (.i .i64)), .h (.sl (.i .i64)), .h (.sl (.pr (.i .i64) (.pr (.i .i64) (.sl (.pr (.i .i64) (.i .i64)))))), .k (.ow 4294967297), .k (.mp 4294967298)]), (900, .box 35 [.k (.ow 903), .k (.ow 904), .k (.ow 905)]), (901, .box 75 [.h (.i .i64), .h (.i .i64), .h (.sl (.pr (.i .i64) (.i .i64)))]), (902, .arr 3 (.i .i64) true), (4294967297, .arr 29 (.pr (.i .i64) (.i .i64)) true), (4294967298, .mp (.tuple ⟨[]⟩) (.pr (.i .i64) (.i .i64)) (.i .i64)), (903, .arr 3 (.i .i64) true), (904, .arr 3 (.i .i64) true), (905, .arr 22 (.sl (.i .i64)) true)], [(.i .i64), (.i .i64), (.sl (.pr (.i .i64) (.i .i64))), (.i .i64), (.i .i64), (.sl (.i .i64)), (.sl (.i .i64)), (.sl (.pr (.i .i64) (.pr (.i .i64) (.sl (.pr (.i .i64) (.i .i64)))))), (.i .i64), (.i .i64), (.sl (.pr (.i .i64) (.i .i64))), (.sl (.i .i64)), (.sl (.pr (.i .i64) (.i .i64))), (.sl (.pr (.pr (.i .i64) (.i .i64)) (.i .i64))), (.sl (.i .i64)), (.sl (.i .i64)), (.sl (.sl (.i .i64)))]⟩
def o__store_trip_tower_phhhom_2 : List (Exit × PS) := [((.exit 2), ⟨[(0, .k (.pt 4294967296 0)), (2, .k (.pt 900 0)), (6, .k (.pt 901 0)), (7, .k (.ow 902)), (15, .k (.ow 4294967297)), (16, .h (.i .i64)), (17, .h (.i .i64))], [(4294967296, .box 80 [.h (.sl (.i .i64)), .h (.sl (.i .i64)), .h (.sl (.pr (.i .i64) (.pr (.i .i64) (.sl (.pr (.i .i64) (.i .i64)))))), .k (.ow 4294967297), .k (.mp 4294967298)]), (900, .box 35 [.k (.ow 903), .k (.ow 904), .k (.ow 905)]), (901, .box 75 [.h (.i .i64), .h (.i .i64), .h (.sl (.pr (.i .i64) (.i .i64)))]), (902, .arr 3 (.i .i64) true), (4294967297, .arr 29 (.pr (.i .i64) (.i .i64)) true), (4294967298, .mp (.tuple ⟨[]⟩) (.pr (.i .i64) (.i .i64)) (.i .i64)), (903, .arr 3 (.i .i64) true), (904, .arr 3 (.i .i64) true), (905, .arr 22 (.sl (.i .i64)) true)], [(.i .i64), (.i .i64), (.sl (.i .i64)), (.sl (.i .i64)), (.sl (.pr (.i .i64) (.pr (.i .i64) (.sl (.pr (.i .i64) (.i .i64)))))), (.i .i64), (.i .i64), (.sl (.pr (.i .i64) (.i .i64))), (.sl (.i .i64)), (.sl (.pr (.i .i64) (.i .i64))), (.sl (.pr (.pr (.i .i64) (.i .i64)) (.i .i64))), (.sl (.i .i64)), (.sl (.i .i64)), (.sl (.sl (.i .i64)))]⟩), (.ret, ⟨[(2, .k (.pt 900 0)), (3, .h .b)], [(900, .box 35 [.k .nil, .k .nil, .k .nil]), (4294967296, .box 80 [.h (.sl (.i .i64)), .h (.sl (.i .i64)), .h (.sl (.pr (.i .i64) (.pr (.i .i64) (.sl (.pr (.i .i64) (.i .i64)))))), .k (.ow 4294967297), .k (.mp 4294967298)]), (4294967297, .arr 29 (.pr (.i .i64) (.i .i64)) true), (4294967298, .mp (.tuple ⟨[]⟩) (.pr (.i .i64) (.i .i64)) (.i .i64))], [.b, (.sl (.i .i64)), (.sl (.i .i64)), (.sl (.pr (.i .i64) (.pr (.i .i64) (.sl (.pr (.i .i64) (.i .i64)))))), (.sl (.pr (.i .i64) (.i .i64))), (.sl (.pr (.pr (.i .i64) (.i .i64)) (.i .i64)))]⟩)]
def p__store_trip_tower_phhhom_2 : Pl := .z
noncomputable def l__store_trip_tower_phhhom_2 (N : Nat) : Nat → Int × Int × (List (Int × Int)) × Int × Int × (List Int) × (List Int) × (List (Int × (Int × (List (Int × Int))))) × Int × Int × (List (Int × Int)) × (List Int) × (List (Int × Int)) × (List ((Int × Int) × Int)) × (List Int) × (List Int) × (List (List Int)) → Option ((Int × Int × (List Int) × (List Int) × (List (Int × (Int × (List (Int × Int))))) × Int × Int × (List (Int × Int)) × (List Int) × (List (Int × Int)) × (List ((Int × Int) × Int)) × (List Int) × (List Int) × (List (List Int))) ⊕ (Bool × (List Int) × (List Int) × (List (Int × (Int × (List (Int × Int))))) × (List (Int × Int)) × (List ((Int × Int) × Int)))) := loopF (exC T (ct__store_trip_tower_phhhom N) N (codeAt [1, 0, 1, 0, 0, 1, 1, 0, 0, 1, 1, 1, 0, 1, 0, 0] (bodyOf Try.f36))) 80 i__store_trip_tower_phhhom_2 o__store_trip_tower_phhhom_2 p__store_trip_tower_phhhom_2
def i__store_trip_tower_phhhom_1 : PS := ⟨[(0, .k (.pt 4294967296 0)), (2, .k (.pt 900 0)), (15, .k (.ow 4294967297)), (16, .h (.i .i64)), (17, .h (.i .i64))], [(4294967296, .box 80 [.h (.sl (.i .i64)), .h (.sl (.i .i64)), .h (.sl (.pr (.i .i64) (.pr (.i .i64) (.sl (.pr (.i .i64) (.i .i64)))))), .k (.ow 4294967297), .k (.mp 4294967298)]), (900, .box 35 [.k (.ow 901), .k (.ow 902), .k (.ow 903)]), (4294967297, .arr 29 (.pr (.i .i64) (.i .i64)) true), (4294967298, .mp (.tuple ⟨[]⟩) (.pr (.i .i64) (.i .i64)) (.i .i64)), (901, .arr 3 (.i .i64) true), (902, .arr 3 (.i .i64) true), (903, .arr 22 (.sl (.i .i64)) true)], [(.i .i64), (.i .i64), (.sl (.i .i64)), (.sl (.i .i64)), (.sl (.pr (.i .i64) (.pr (.i .i64) (.sl (.pr (.i .i64) (.i .i64)))))), (.sl (.pr (.i .i64) (.i .i64))), (.sl (.pr (.pr (.i .i64) (.i .i64)) (.i .i64))), (.sl (.i .i64)), (.sl (.i .i64)), (.sl (.sl (.i .i64)))]⟩
def o__store_trip_tower_phhhom_1 : List (Exit × PS) := [((.exit 0), ⟨[(2, .k (.pt 900 0))], [(900, .box 35 [.k (.ow 901), .k (.ow 902), .k (.ow 903)]), (4294967296, .box 80 [.h (.sl (.i .i64)), .h (.sl (.i .i64)), .h (.sl (.pr (.i .i64) (.pr (.i .i64) (.sl (.pr (.i .i64) (.i .i64)))))), .k (.ow 4294967297), .k (.mp 4294967298)]), (4294967297, .arr 29 (.pr (.i .i64) (.i .i64)) true), (4294967298, .mp (.tuple ⟨[]⟩) (.pr (.i .i64) (.i .i64)) (.i .i64)), (901, .arr 3 (.i .i64) true), (902, .arr 3 (.i .i64) true), (903, .arr 22 (.sl (.i .i64)) true)], [(.sl (.i .i64)), (.sl (.i .i64)), (.sl (.pr (.i .i64) (.pr (.i .i64) (.sl (.pr (.i .i64) (.i .i64)))))), (.sl (.pr (.i .i64) (.i .i64))), (.sl (.pr (.pr (.i .i64) (.i .i64)) (.i .i64))), (.sl (.i .i64)), (.sl (.i .i64)), (.sl (.sl (.i .i64)))]⟩), (.ret, ⟨[(2, .k (.pt 900 0)), (3, .h .b)], [(900, .box 35 [.k .nil, .k .nil, .k .nil]), (4294967296, .box 80 [.h (.sl (.i .i64)), .h (.sl (.i .i64)), .h (.sl (.pr (.i .i64) (.pr (.i .i64) (.sl (.pr (.i .i64) (.i .i64)))))), .k (.ow 4294967297), .k (.mp 4294967298)]), (4294967297, .arr 29 (.pr (.i .i64) (.i .i64)) true), (4294967298, .mp (.tuple ⟨[]⟩) (.pr (.i .i64) (.i .i64)) (.i .i64))], [.b, (.sl (.i .i64)), (.sl (.i .i64)), (.sl (.pr (.i .i64) (.pr (.i .i64) (.sl (.pr (.i .i64) (.i .i64)))))), (.sl (.pr (.i .i64) (.i .i64))), (.sl (.pr (.pr (.i .i64) (.i .i64)) (.i .i64)))]⟩)]
def p__store_trip_tower_phhhom_1 : Pl := (.n .z (.n .z (.n (.n (.n .z (.n .z (.n .z (.n (.n .z (.n (.loop i__store_trip_tower_phhhom_2 o__store_trip_tower_phhhom_2 p__store_trip_tower_phhhom_2) .z)) .z)))) .z) .z)))
noncomputable def l__store_trip_tower_phhhom_1 (N : Nat) : Nat → Int × Int × (List Int) × (List Int) × (List (Int × (Int × (List (Int × Int))))) × (List (Int × Int)) × (List ((Int × Int) × Int)) × (List Int) × (List Int) × (List (List Int)) → Option (((List Int) × (List Int) × (List (Int × (Int × (List (Int × Int))))) × (List (Int × Int)) × (List ((Int × Int) × Int)) × (List Int) × (List Int) × (List (List Int))) ⊕ (Bool × (List Int) × (List Int) × (List (Int × (Int × (List (Int × Int))))) × (List (Int × Int)) × (List ((Int × Int) × Int)))) := loopF (exC T (ct__store_trip_tower_phhhom N) N (codeAt [1, 0, 1, 0, 0] (bodyOf Try.f36))) 80 i__store_trip_tower_phhhom_1 o__store_trip_tower_phhhom_1 p__store_trip_tower_phhhom_1
def p__store_trip_tower_phhhom : Pl := (.n .z (.n (.n .z (.n (.loop i__store_trip_tower_phhhom_1 o__store_trip_tower_phhhom_1 p__store_trip_tower_phhhom_1) .z)) .z))
def r__store_trip_tower_phhhom : PS := ⟨[(2, .k (.pt 900 0)), (3, .h .b)], [(900, .box 35 [.h (.sl (.i .i64)), .h (.sl (.i .i64)), .h (.sl (.sl (.i .i64)))]), (4294967297, .arr 29 (.pr (.i .i64) (.i .i64)) true), (4294967298, .mp (.tuple ⟨[]⟩) (.pr (.i .i64) (.i .i64)) (.i .i64)), (4294967296, .box 80 [.h (.sl (.i .i64)), .h (.sl (.i .i64)), .h (.sl (.pr (.i .i64) (.pr (.i .i64) (.sl (.pr (.i .i64) (.i .i64)))))), .k (.ow 4294967297), .k (.mp 4294967298)])], [.b, (.sl (.i .i64)), (.sl (.i .i64)), (.sl (.sl (.i .i64))), (.sl (.pr (.i .i64) (.i .i64))), (.sl (.pr (.pr (.i .i64) (.i .i64)) (.i .i64))), (.sl (.i .i64)), (.sl (.i .i64)), (.sl (.pr (.i .i64) (.pr (.i .i64) (.sl (.pr (.i .i64) (.i .i64))))))]⟩
noncomputable def m__store_trip_tower_phhhom (N : Nat) : (List Int) × (List Int) × (List (Int × (Int × (List (Int × Int))))) × (List (Int × Int)) × (List ((Int × Int) × Int)) → Option (Bool × (List Int) × (List Int) × (List (List Int)) × (List (Int × Int)) × (List ((Int × Int) × Int)) × (List Int) × (List Int) × (List (Int × (Int × (List (Int × Int)))))) := exF T ct__store_trip_tower_phhhom N (bodyOf Try.f36) 80 p__store_trip_tower_phhhom [.k (.pt 4294967296 0)] [(4294967296, .box 80 [.h (.sl (.i .i64)), .h (.sl (.i .i64)), .h (.sl (.pr (.i .i64) (.pr (.i .i64) (.sl (.pr (.i .i64) (.i .i64)))))), .k (.ow 4294967297), .k (.mp 4294967298)]), (4294967297, .arr 29 (.pr (.i .i64) (.i .i64)) true), (4294967298, .mp (.tuple ⟨[]⟩) (.pr (.i .i64) (.i .i64)) (.i .i64))] [(.sl (.i .i64)), (.sl (.i .i64)), (.sl (.pr (.i .i64) (.pr (.i .i64) (.sl (.pr (.i .i64) (.i .i64)))))), (.sl (.pr (.i .i64) (.i .i64))), (.sl (.pr (.pr (.i .i64) (.i .i64)) (.i .i64)))] r__store_trip_tower_phhhom
noncomputable def c__store_trip_tower_phhhom (N : Nat) : Ctr := ⟨36, [.k (.pt 4294967296 0)], [(4294967296, .box 80 [.h (.sl (.i .i64)), .h (.sl (.i .i64)), .h (.sl (.pr (.i .i64) (.pr (.i .i64) (.sl (.pr (.i .i64) (.i .i64)))))), .k (.ow 4294967297), .k (.mp 4294967298)]), (4294967297, .arr 29 (.pr (.i .i64) (.i .i64)) true), (4294967298, .mp (.tuple ⟨[]⟩) (.pr (.i .i64) (.i .i64)) (.i .i64))], [(.sl (.i .i64)), (.sl (.i .i64)), (.sl (.pr (.i .i64) (.pr (.i .i64) (.sl (.pr (.i .i64) (.i .i64)))))), (.sl (.pr (.i .i64) (.i .i64))), (.sl (.pr (.pr (.i .i64) (.i .i64)) (.i .i64)))], Tup r__store_trip_tower_phhhom.c, m__store_trip_tower_phhhom N, fun y _ k => k (resG T (mkPS 80 r__store_trip_tower_phhhom y) Try.f36.results.toList) (keepH' [4294967297, 4294967298, 4294967296] (mkPS 80 r__store_trip_tower_phhhom y).h), true, false⟩
theorem l__store_trip_tower_phhhom_2_s (N m : Nat) (v16 : Int) (v17 : Int) (v31 : (List (Int × Int))) (v32 : Int) (v33 : Int) (r : (List Int)) (r2 : (List Int)) (r3 : (List (Int × (Int × (List (Int × Int)))))) (x : Int) (x2 : Int) (x3 : (List (Int × Int))) (v7 : (List Int)) (v15 : (List (Int × Int))) (v4294967298 : (List ((Int × Int) × Int))) (v903 : (List Int)) (v904 : (List Int)) (v905 : (List (List Int))) : l__store_trip_tower_phhhom_2 N (m + 1) (v16, v17, v31, v32, v33, r, r2, r3, x, x2, x3, v7, v15, v4294967298, v903, v904, v905) = cond (decide (v33 < v32))
   (obind (nthI v31 v33) fun z1 =>
    cond (!(Option.isSome (mget (.pr (.i .i64) (.i .i64)) v4294967298 (z1.1, z1.2))))
     (some (.inr (false, (r, (r2, (r3, (v15, v4294967298)))))))
     (obind (appI (8 : Nat) v7 [(Option.getD (mget (.pr (.i .i64) (.i .i64)) v4294967298 (z1.1, z1.2)) (0 : Int))]) fun z2 =>
      (l__store_trip_tower_phhhom_2 N m (v16, (v17, (v31, (v32, ((IntKind.wrap .i64 (v33 + (1 : Int))), (r, (r2, (r3, (x, (x2, (x3, (z2, (v15, (v4294967298, (v903, (v904, v905)))))))))))))))))))
   (some (.inl (v16, (v17, (r, (r2, (r3, (x, (x2, (x3, (v7, (v15, (v4294967298, (v903, (v904, v905))))))))))))))) := by kernel_rfl
theorem l__store_trip_tower_phhhom_1_s (N m : Nat) (v16 : Int) (v17 : Int) (r : (List Int)) (r2 : (List Int)) (r3 : (List (Int × (Int × (List (Int × Int)))))) (v15 : (List (Int × Int))) (v4294967298 : (List ((Int × Int) × Int))) (v901 : (List Int)) (v902 : (List Int)) (v903 : (List (List Int))) : l__store_trip_tower_phhhom_1 N (m + 1) (v16, v17, r, r2, r3, v15, v4294967298, v901, v902, v903) = cond (decide (v17 < v16))
   (obind (nthI v15 v17) fun z1 =>
    obind (nthI v15 v17) fun z2 =>
    obind (nthI r3 z2.1) fun z3 =>
    obind (l__store_trip_tower_phhhom_2 N N (v16, (v17, (z3.2.2, ((((List.length z3.2.2) : Nat) : Int), ((0 : Int), (r, (r2, (r3, (z3.1, (z3.2.1, (z3.2.2, ([], (v15, (v4294967298, (v901, (v902, v903))))))))))))))))) fun z4 =>
    (match z4 with
    | .inl zy5 => obind (appI (8 : Nat) zy5.2.2.2.2.2.2.2.2.2.2.2.1 [zy5.2.2.2.2.2.1]) fun z6 =>
      obind (appI (8 : Nat) zy5.2.2.2.2.2.2.2.2.2.2.2.2.1 [zy5.2.2.2.2.2.2.1]) fun z7 =>
      obind (appI (24 : Nat) zy5.2.2.2.2.2.2.2.2.2.2.2.2.2 [zy5.2.2.2.2.2.2.2.2.1]) fun z8 =>
      (l__store_trip_tower_phhhom_1 N m (zy5.1, ((IntKind.wrap .i64 (zy5.2.1 + (1 : Int))), (zy5.2.2.1, (zy5.2.2.2.1, (zy5.2.2.2.2.1, (zy5.2.2.2.2.2.2.2.2.2.1, (zy5.2.2.2.2.2.2.2.2.2.2.1, (z6, (z7, z8))))))))))
    | .inr zy9 => some (.inr (zy9.1, (zy9.2.1, (zy9.2.2.1, (zy9.2.2.2.1, (zy9.2.2.2.2.1, zy9.2.2.2.2.2))))))))
   (some (.inl (r, (r2, (r3, (v15, (v4294967298, (v901, (v902, v903))))))))) := by kernel_rfl
theorem m__store_trip_tower_phhhom_eq (N : Nat) (r : (List Int)) (r2 : (List Int)) (r3 : (List (Int × (Int × (List (Int × Int)))))) (h : (List (Int × Int))) (h2 : (List ((Int × Int) × Int))) : m__store_trip_tower_phhhom (N + 1) (r, r2, r3, h, h2) = obind (l__store_trip_tower_phhhom_1 N N ((((List.length h) : Nat) : Int), ((0 : Int), (r, (r2, (r3, (h, (h2, ([], ([], [])))))))))) fun z1 =>
  (match z1 with
  | .inl zy2 => obind (m_tower_Right N (zy2.2.2.2.2.2.1, (zy2.2.2.2.2.2.2.1, zy2.2.2.2.2.2.2.2))) fun z3 =>
    cond (!z3)
     (some (false, ([], ([], ([], (zy2.2.2.2.1, (zy2.2.2.2.2.1, (zy2.1, (zy2.2.1, zy2.2.2.1)))))))))
     (some (true, (zy2.2.2.2.2.2.1, (zy2.2.2.2.2.2.2.1, (zy2.2.2.2.2.2.2.2, (zy2.2.2.2.1, (zy2.2.2.2.2.1, (zy2.1, (zy2.2.1, zy2.2.2.1)))))))))
  | .inr zy4 => some (zy4.1, ([], ([], ([], (zy4.2.2.2.2.1, (zy4.2.2.2.2.2, (zy4.2.1, (zy4.2.2.1, zy4.2.2.2.1))))))))) := by kernel_rfl
theorem c__store_trip_tower_phhhom_ok (N : Nat) : (c__store_trip_tower_phhhom N).ok Try.prog := exF_ok (T := T) (CT := ct__store_trip_tower_phhhom) (N := N) (fun M => ⟨tOk, (ctAll_cons (c_tower_Right_ok M) ctAll_nil), mixed, bwAll⟩) Try.func36 (by kernel_rfl) (by kernel_rfl) p__store_trip_tower_phhhom [.k (.pt 4294967296 0)] [(4294967296, .box 80 [.h (.sl (.i .i64)), .h (.sl (.i .i64)), .h (.sl (.pr (.i .i64) (.pr (.i .i64) (.sl (.pr (.i .i64) (.i .i64)))))), .k (.ow 4294967297), .k (.mp 4294967298)]), (4294967297, .arr 29 (.pr (.i .i64) (.i .i64)) true), (4294967298, .mp (.tuple ⟨[]⟩) (.pr (.i .i64) (.i .i64)) (.i .i64))] [(.sl (.i .i64)), (.sl (.i .i64)), (.sl (.pr (.i .i64) (.pr (.i .i64) (.sl (.pr (.i .i64) (.i .i64)))))), (.sl (.pr (.i .i64) (.i .i64))), (.sl (.pr (.pr (.i .i64) (.i .i64)) (.i .i64)))] r__store_trip_tower_phhhom true false [4294967297, 4294967298, 4294967296] (by kernel_rfl) (fun y => by kernel_rfl) (fun h => by cases h) (fun y => by kernel_rfl) (m__store_trip_tower_phhhom N) (fun x => by kernel_rfl)
noncomputable def ct_store_Read (N : Nat) : List Ctr := [c_store_Right N, c_pool_Good N, c__store_trip_round_phhhnm N, c__store_trip_tower_phhhom N]
def p_store_Read : Pl := .z
def r_store_Read : PS := ⟨[(4, .k (.pt 900 0)), (5, .k (.ow 901)), (6, .h (.i .i64))], [(900, .box 35 [.h (.sl (.i .i64)), .h (.sl (.i .i64)), .h (.sl (.sl (.i .i64)))]), (901, .arr 29 (.pr (.i .i64) (.i .i64)) true)], [(.i .i64), (.sl (.i .i64)), (.sl (.i .i64)), (.sl (.sl (.i .i64))), (.sl (.pr (.i .i64) (.i .i64)))]⟩
noncomputable def m_store_Read (N : Nat) : (List Int) × (List Int) × (List (Int × (Int × (List (Int × Int))))) × Int × Int → Option (Int × (List Int) × (List Int) × (List (List Int)) × (List (Int × Int))) := exF T ct_store_Read N (bodyOf Try.f11) 47 p_store_Read [.ag [.h (.sl (.i .i64)), .h (.sl (.i .i64)), .h (.sl (.pr (.i .i64) (.pr (.i .i64) (.sl (.pr (.i .i64) (.i .i64))))))], .ag [.h (.i .i64), .h (.i .i64)]] [] [(.sl (.i .i64)), (.sl (.i .i64)), (.sl (.pr (.i .i64) (.pr (.i .i64) (.sl (.pr (.i .i64) (.i .i64)))))), (.i .i64), (.i .i64)] r_store_Read
noncomputable def c_store_Read (N : Nat) : Ctr := ⟨11, [.ag [.h (.sl (.i .i64)), .h (.sl (.i .i64)), .h (.sl (.pr (.i .i64) (.pr (.i .i64) (.sl (.pr (.i .i64) (.i .i64))))))], .ag [.h (.i .i64), .h (.i .i64)]], [], [(.sl (.i .i64)), (.sl (.i .i64)), (.sl (.pr (.i .i64) (.pr (.i .i64) (.sl (.pr (.i .i64) (.i .i64)))))), (.i .i64), (.i .i64)], Tup r_store_Read.c, m_store_Read N, fun y _ k => k (resG T (mkPS 47 r_store_Read y) Try.f11.results.toList) (keepH' [901] (mkPS 47 r_store_Read y).h), true, false⟩
theorem m_store_Read_eq (N : Nat) (s : (List Int)) (s2 : (List Int)) (s3 : (List (Int × (Int × (List (Int × Int)))))) (h : Int) (h2 : Int) : m_store_Read (N + 1) (s, s2, s3, h, h2) = obind (m_store_Right N (s, (s2, s3))) fun z1 =>
  cond (!z1)
   (some ((1 : Int), ([], ([], ([], [])))))
   (obind (m_pool_Good N (s, (s2, (h, h2)))) fun z2 =>
    cond (!z2)
     (some ((3 : Int), ([], ([], ([], [])))))
     (obind (m__store_trip_round_phhhnm N (h, (h2, (s, (s2, (s3, [])))))) fun z3 =>
      obind (m__store_trip_tower_phhhom N (z3.2.1, (z3.2.2.1, (z3.2.2.2.1, (z3.2.2.2.2.2, z3.2.2.2.2.1))))) fun z4 =>
      cond (!(decide (z3.1 = (0 : Int))))
       (some ((8 : Int), ([], ([], ([], [])))))
       (cond (!z4.1)
         (some ((8 : Int), ([], ([], ([], [])))))
         (some ((0 : Int), (z4.2.1, (z4.2.2.1, (z4.2.2.2.1, z4.2.2.2.2.1)))))))) := by kernel_rfl
theorem c_store_Read_ok (N : Nat) : (c_store_Read N).ok Try.prog := exF_ok (T := T) (CT := ct_store_Read) (N := N) (fun M => ⟨tOk, (ctAll_cons (c_store_Right_ok M) (ctAll_cons (c_pool_Good_ok M) (ctAll_cons (c__store_trip_round_phhhnm_ok M) (ctAll_cons (c__store_trip_tower_phhhom_ok M) ctAll_nil)))), mixed, bwAll⟩) Try.func11 (by kernel_rfl) (by kernel_rfl) p_store_Read [.ag [.h (.sl (.i .i64)), .h (.sl (.i .i64)), .h (.sl (.pr (.i .i64) (.pr (.i .i64) (.sl (.pr (.i .i64) (.i .i64))))))], .ag [.h (.i .i64), .h (.i .i64)]] [] [(.sl (.i .i64)), (.sl (.i .i64)), (.sl (.pr (.i .i64) (.pr (.i .i64) (.sl (.pr (.i .i64) (.i .i64)))))), (.i .i64), (.i .i64)] r_store_Read true false [901] (by kernel_rfl) (fun y => by kernel_rfl) (fun h => by cases h) (fun y => by kernel_rfl) (m_store_Read N) (fun x => by kernel_rfl)
noncomputable def ct_store_leadsF1_ph (N : Nat) : List Ctr := []
def p_store_leadsF1_ph : Pl := .z
def r_store_leadsF1_ph : PS := ⟨[(3, .h .b)], [(4294967296, .box 3 [.h (.i .i64)])], [.b, (.i .i64)]⟩
noncomputable def m_store_leadsF1_ph (N : Nat) : Int × Int × Int → Option (Bool × Int) := exF T ct_store_leadsF1_ph N (bodyOf Try.f66) 8 p_store_leadsF1_ph [.ag [.h (.i .i64), .h (.i .i64)], .k (.pt 4294967296 0)] [(4294967296, .box 3 [.h (.i .i64)])] [(.i .i64), (.i .i64), (.i .i64)] r_store_leadsF1_ph
noncomputable def c_store_leadsF1_ph (N : Nat) : Ctr := ⟨66, [.ag [.h (.i .i64), .h (.i .i64)], .k (.pt 4294967296 0)], [(4294967296, .box 3 [.h (.i .i64)])], [(.i .i64), (.i .i64), (.i .i64)], Tup r_store_leadsF1_ph.c, m_store_leadsF1_ph N, fun y _ k => k (resG T (mkPS 8 r_store_leadsF1_ph y) Try.f66.results.toList) (keepH' [4294967296] (mkPS 8 r_store_leadsF1_ph y).h), true, true⟩
theorem m_store_leadsF1_ph_eq (N : Nat) (h : Int) (h2 : Int) (v4294967296 : Int) : m_store_leadsF1_ph (N + 1) (h, h2, v4294967296) = some ((decide (h = v4294967296)), v4294967296) := by kernel_rfl
theorem c_store_leadsF1_ph_ok (N : Nat) : (c_store_leadsF1_ph N).ok Try.prog := exF_ok (T := T) (CT := ct_store_leadsF1_ph) (N := N) (fun M => ⟨tOk, ctAll_nil, mixed, bwAll⟩) Try.func66 (by kernel_rfl) (by kernel_rfl) p_store_leadsF1_ph [.ag [.h (.i .i64), .h (.i .i64)], .k (.pt 4294967296 0)] [(4294967296, .box 3 [.h (.i .i64)])] [(.i .i64), (.i .i64), (.i .i64)] r_store_leadsF1_ph true true [4294967296] (by kernel_rfl) (fun y => by kernel_rfl) (fun h => by cases h) (fun y => by kernel_rfl) (m_store_leadsF1_ph N) (fun x => by kernel_rfl)
noncomputable def ct_slices_IndexFunc_Lapi_Handle_api_Handle_store_leadsF1_f66ph (N : Nat) : List Ctr := [c_store_leadsF1_ph N]
def i_slices_IndexFunc_Lapi_Handle_api_Handle_store_leadsF1_f66ph_1 : PS := ⟨[(0, .h (.sl (.pr (.i .i64) (.i .i64)))), (1, .cl (.func 66) [] [.k (.pt 4294967296 0)]), (7, .h (.i .i64)), (8, .h (.i .i64))], [(4294967296, .box 3 [.h (.i .i64)])], [(.sl (.pr (.i .i64) (.i .i64))), (.i .i64), (.i .i64), (.i .i64)]⟩
def o_slices_IndexFunc_Lapi_Handle_api_Handle_store_leadsF1_f66ph_1 : List (Exit × PS) := [((.exit 0), ⟨[], [(4294967296, .box 3 [.h (.i .i64)])], [(.i .i64)]⟩), (.ret, ⟨[(4, .h (.i .i64))], [(4294967296, .box 3 [.h (.i .i64)])], [(.i .i64), (.i .i64)]⟩)]
def p_slices_IndexFunc_Lapi_Handle_api_Handle_store_leadsF1_f66ph_1 : Pl := .z
noncomputable def l_slices_IndexFunc_Lapi_Handle_api_Handle_store_leadsF1_f66ph_1 (N : Nat) : Nat → (List (Int × Int)) × Int × Int × Int → Option ((Int) ⊕ (Int × Int)) := loopF (exC T (ct_slices_IndexFunc_Lapi_Handle_api_Handle_store_leadsF1_f66ph N) N (codeAt [1, 0, 1, 0, 0] (bodyOf Try.f91))) 19 i_slices_IndexFunc_Lapi_Handle_api_Handle_store_leadsF1_f66ph_1 o_slices_IndexFunc_Lapi_Handle_api_Handle_store_leadsF1_f66ph_1 p_slices_IndexFunc_Lapi_Handle_api_Handle_store_leadsF1_f66ph_1
def p_slices_IndexFunc_Lapi_Handle_api_Handle_store_leadsF1_f66ph : Pl := (.n .z (.n (.n .z (.n (.loop i_slices_IndexFunc_Lapi_Handle_api_Handle_store_leadsF1_f66ph_1 o_slices_IndexFunc_Lapi_Handle_api_Handle_store_leadsF1_f66ph_1 p_slices_IndexFunc_Lapi_Handle_api_Handle_store_leadsF1_f66ph_1) .z)) .z))
def r_slices_IndexFunc_Lapi_Handle_api_Handle_store_leadsF1_f66ph : PS := ⟨[(4, .h (.i .i64))], [(4294967296, .box 3 [.h (.i .i64)])], [(.i .i64), (.i .i64)]⟩
noncomputable def m_slices_IndexFunc_Lapi_Handle_api_Handle_store_leadsF1_f66ph (N : Nat) : (List (Int × Int)) × Int → Option (Int × Int) := exF T ct_slices_IndexFunc_Lapi_Handle_api_Handle_store_leadsF1_f66ph N (bodyOf Try.f91) 19 p_slices_IndexFunc_Lapi_Handle_api_Handle_store_leadsF1_f66ph [.h (.sl (.pr (.i .i64) (.i .i64))), .cl (.func 66) [] [.k (.pt 4294967296 0)]] [(4294967296, .box 3 [.h (.i .i64)])] [(.sl (.pr (.i .i64) (.i .i64))), (.i .i64)] r_slices_IndexFunc_Lapi_Handle_api_Handle_store_leadsF1_f66ph
noncomputable def c_slices_IndexFunc_Lapi_Handle_api_Handle_store_leadsF1_f66ph (N : Nat) : Ctr := ⟨91, [.h (.sl (.pr (.i .i64) (.i .i64))), .cl (.func 66) [] [.k (.pt 4294967296 0)]], [(4294967296, .box 3 [.h (.i .i64)])], [(.sl (.pr (.i .i64) (.i .i64))), (.i .i64)], Tup r_slices_IndexFunc_Lapi_Handle_api_Handle_store_leadsF1_f66ph.c, m_slices_IndexFunc_Lapi_Handle_api_Handle_store_leadsF1_f66ph N, fun y _ k => k (resG T (mkPS 19 r_slices_IndexFunc_Lapi_Handle_api_Handle_store_leadsF1_f66ph y) Try.f91.results.toList) (keepH' [4294967296] (mkPS 19 r_slices_IndexFunc_Lapi_Handle_api_Handle_store_leadsF1_f66ph y).h), true, true⟩
theorem l_slices_IndexFunc_Lapi_Handle_api_Handle_store_leadsF1_f66ph_1_s (N m : Nat) (s : (List (Int × Int))) (v7 : Int) (v8 : Int) (f : Int) : l_slices_IndexFunc_Lapi_Handle_api_Handle_store_leadsF1_f66ph_1 N (m + 1) (s, v7, v8, f) = cond (decide (v8 < v7))
   (obind (nthI s v8) fun z1 =>
    obind (m_store_leadsF1_ph N (z1.1, (z1.2, f))) fun z2 =>
    cond z2.1
     (some (.inr (v8, z2.2)))
     ((l_slices_IndexFunc_Lapi_Handle_api_Handle_store_leadsF1_f66ph_1 N m (s, (v7, ((IntKind.wrap .i64 (v8 + (1 : Int))), z2.2))))))
   (some (.inl f)) := by kernel_rfl
theorem m_slices_IndexFunc_Lapi_Handle_api_Handle_store_leadsF1_f66ph_eq (N : Nat) (s : (List (Int × Int))) (f : Int) : m_slices_IndexFunc_Lapi_Handle_api_Handle_store_leadsF1_f66ph (N + 1) (s, f) = obind (l_slices_IndexFunc_Lapi_Handle_api_Handle_store_leadsF1_f66ph_1 N N (s, ((((List.length s) : Nat) : Int), ((0 : Int), f)))) fun z1 =>
  (match z1 with
  | .inl zy2 => some ((-(1 : Int)), zy2)
  | .inr zy3 => some (zy3.1, zy3.2)) := by kernel_rfl
theorem c_slices_IndexFunc_Lapi_Handle_api_Handle_store_leadsF1_f66ph_ok (N : Nat) : (c_slices_IndexFunc_Lapi_Handle_api_Handle_store_leadsF1_f66ph N).ok Try.prog := exF_ok (T := T) (CT := ct_slices_IndexFunc_Lapi_Handle_api_Handle_store_leadsF1_f66ph) (N := N) (fun M => ⟨tOk, (ctAll_cons (c_store_leadsF1_ph_ok M) ctAll_nil), mixed, bwAll⟩) Try.func91 (by kernel_rfl) (by kernel_rfl) p_slices_IndexFunc_Lapi_Handle_api_Handle_store_leadsF1_f66ph [.h (.sl (.pr (.i .i64) (.i .i64))), .cl (.func 66) [] [.k (.pt 4294967296 0)]] [(4294967296, .box 3 [.h (.i .i64)])] [(.sl (.pr (.i .i64) (.i .i64))), (.i .i64)] r_slices_IndexFunc_Lapi_Handle_api_Handle_store_leadsF1_f66ph true true [4294967296] (by kernel_rfl) (fun y => by kernel_rfl) (fun h => by cases h) (fun y => by kernel_rfl) (m_slices_IndexFunc_Lapi_Handle_api_Handle_store_leadsF1_f66ph N) (fun x => by kernel_rfl)
noncomputable def ct_slices_ContainsFunc_Lapi_Handle_api_Handle_store_leadsF1_f66ph (N : Nat) : List Ctr := [c_slices_IndexFunc_Lapi_Handle_api_Handle_store_leadsF1_f66ph N]
def p_slices_ContainsFunc_Lapi_Handle_api_Handle_store_leadsF1_f66ph : Pl := .z
def r_slices_ContainsFunc_Lapi_Handle_api_Handle_store_leadsF1_f66ph : PS := ⟨[(4, .h .b)], [(4294967296, .box 3 [.h (.i .i64)])], [.b, (.i .i64)]⟩
noncomputable def m_slices_ContainsFunc_Lapi_Handle_api_Handle_store_leadsF1_f66ph (N : Nat) : (List (Int × Int)) × Int → Option (Bool × Int) := exF T ct_slices_ContainsFunc_Lapi_Handle_api_Handle_store_leadsF1_f66ph N (bodyOf Try.f65) 9 p_slices_ContainsFunc_Lapi_Handle_api_Handle_store_leadsF1_f66ph [.h (.sl (.pr (.i .i64) (.i .i64))), .cl (.func 66) [] [.k (.pt 4294967296 0)]] [(4294967296, .box 3 [.h (.i .i64)])] [(.sl (.pr (.i .i64) (.i .i64))), (.i .i64)] r_slices_ContainsFunc_Lapi_Handle_api_Handle_store_leadsF1_f66ph
noncomputable def c_slices_ContainsFunc_Lapi_Handle_api_Handle_store_leadsF1_f66ph (N : Nat) : Ctr := ⟨65, [.h (.sl (.pr (.i .i64) (.i .i64))), .cl (.func 66) [] [.k (.pt 4294967296 0)]], [(4294967296, .box 3 [.h (.i .i64)])], [(.sl (.pr (.i .i64) (.i .i64))), (.i .i64)], Tup r_slices_ContainsFunc_Lapi_Handle_api_Handle_store_leadsF1_f66ph.c, m_slices_ContainsFunc_Lapi_Handle_api_Handle_store_leadsF1_f66ph N, fun y _ k => k (resG T (mkPS 9 r_slices_ContainsFunc_Lapi_Handle_api_Handle_store_leadsF1_f66ph y) Try.f65.results.toList) (keepH' [4294967296] (mkPS 9 r_slices_ContainsFunc_Lapi_Handle_api_Handle_store_leadsF1_f66ph y).h), true, true⟩
theorem m_slices_ContainsFunc_Lapi_Handle_api_Handle_store_leadsF1_f66ph_eq (N : Nat) (s : (List (Int × Int))) (f : Int) : m_slices_ContainsFunc_Lapi_Handle_api_Handle_store_leadsF1_f66ph (N + 1) (s, f) = obind (m_slices_IndexFunc_Lapi_Handle_api_Handle_store_leadsF1_f66ph N (s, f)) fun z1 =>
  some ((decide ((0 : Int) ≤ z1.1)), z1.2) := by kernel_rfl
theorem c_slices_ContainsFunc_Lapi_Handle_api_Handle_store_leadsF1_f66ph_ok (N : Nat) : (c_slices_ContainsFunc_Lapi_Handle_api_Handle_store_leadsF1_f66ph N).ok Try.prog := exF_ok (T := T) (CT := ct_slices_ContainsFunc_Lapi_Handle_api_Handle_store_leadsF1_f66ph) (N := N) (fun M => ⟨tOk, (ctAll_cons (c_slices_IndexFunc_Lapi_Handle_api_Handle_store_leadsF1_f66ph_ok M) ctAll_nil), mixed, bwAll⟩) Try.func65 (by kernel_rfl) (by kernel_rfl) p_slices_ContainsFunc_Lapi_Handle_api_Handle_store_leadsF1_f66ph [.h (.sl (.pr (.i .i64) (.i .i64))), .cl (.func 66) [] [.k (.pt 4294967296 0)]] [(4294967296, .box 3 [.h (.i .i64)])] [(.sl (.pr (.i .i64) (.i .i64))), (.i .i64)] r_slices_ContainsFunc_Lapi_Handle_api_Handle_store_leadsF1_f66ph true true [4294967296] (by kernel_rfl) (fun y => by kernel_rfl) (fun h => by cases h) (fun y => by kernel_rfl) (m_slices_ContainsFunc_Lapi_Handle_api_Handle_store_leadsF1_f66ph N) (fun x => by kernel_rfl)
noncomputable def ct_slices_Index_Lapi_Handle_api_Handle (N : Nat) : List Ctr := []
def i_slices_Index_Lapi_Handle_api_Handle_1 : PS := ⟨[(0, .h (.sl (.pr (.i .i64) (.i .i64)))), (3, .k (.pt 900 0)), (7, .h (.i .i64)), (8, .h (.i .i64))], [(900, .box 29 [.h (.i .i64), .h (.i .i64)])], [(.sl (.pr (.i .i64) (.i .i64))), (.i .i64), (.i .i64), (.i .i64), (.i .i64)]⟩
def o_slices_Index_Lapi_Handle_api_Handle_1 : List (Exit × PS) := [((.exit 0), ⟨[], [], []⟩), (.ret, ⟨[(4, .h (.i .i64))], [], [(.i .i64)]⟩)]
def p_slices_Index_Lapi_Handle_api_Handle_1 : Pl := .z
noncomputable def l_slices_Index_Lapi_Handle_api_Handle_1 (N : Nat) : Nat → (List (Int × Int)) × Int × Int × Int × Int → Option ((Unit) ⊕ (Int)) := loopF (exC T (ct_slices_Index_Lapi_Handle_api_Handle N) N (codeAt [1, 0, 1, 0, 0] (bodyOf Try.f92))) 19 i_slices_Index_Lapi_Handle_api_Handle_1 o_slices_Index_Lapi_Handle_api_Handle_1 p_slices_Index_Lapi_Handle_api_Handle_1
def p_slices_Index_Lapi_Handle_api_Handle : Pl := (.n .z (.n (.n .z (.n (.loop i_slices_Index_Lapi_Handle_api_Handle_1 o_slices_Index_Lapi_Handle_api_Handle_1 p_slices_Index_Lapi_Handle_api_Handle_1) .z)) .z))
def r_slices_Index_Lapi_Handle_api_Handle : PS := ⟨[(4, .h (.i .i64))], [], [(.i .i64)]⟩
noncomputable def m_slices_Index_Lapi_Handle_api_Handle (N : Nat) : (List (Int × Int)) × Int × Int → Option (Int) := exF T ct_slices_Index_Lapi_Handle_api_Handle N (bodyOf Try.f92) 19 p_slices_Index_Lapi_Handle_api_Handle [.h (.sl (.pr (.i .i64) (.i .i64))), .ag [.h (.i .i64), .h (.i .i64)]] [] [(.sl (.pr (.i .i64) (.i .i64))), (.i .i64), (.i .i64)] r_slices_Index_Lapi_Handle_api_Handle
noncomputable def c_slices_Index_Lapi_Handle_api_Handle (N : Nat) : Ctr := ⟨92, [.h (.sl (.pr (.i .i64) (.i .i64))), .ag [.h (.i .i64), .h (.i .i64)]], [], [(.sl (.pr (.i .i64) (.i .i64))), (.i .i64), (.i .i64)], Tup r_slices_Index_Lapi_Handle_api_Handle.c, m_slices_Index_Lapi_Handle_api_Handle N, fun y _ k => k (resG T (mkPS 19 r_slices_Index_Lapi_Handle_api_Handle y) Try.f92.results.toList) (keepH' [] (mkPS 19 r_slices_Index_Lapi_Handle_api_Handle y).h), false, true⟩
theorem l_slices_Index_Lapi_Handle_api_Handle_1_s (N m : Nat) (s : (List (Int × Int))) (v7 : Int) (v8 : Int) (v : Int) (v2 : Int) : l_slices_Index_Lapi_Handle_api_Handle_1 N (m + 1) (s, v7, v8, v, v2) = cond (decide (v8 < v7))
   (obind (nthI s v8) fun z1 =>
    cond ((decide (v = z1.1)) && (decide (v2 = z1.2)))
     (some (.inr v8))
     ((l_slices_Index_Lapi_Handle_api_Handle_1 N m (s, (v7, ((IntKind.wrap .i64 (v8 + (1 : Int))), (v, v2)))))))
   (some (.inl ())) := by kernel_rfl
theorem m_slices_Index_Lapi_Handle_api_Handle_eq (N : Nat) (s : (List (Int × Int))) (v : Int) (v2 : Int) : m_slices_Index_Lapi_Handle_api_Handle (N + 1) (s, v, v2) = obind (l_slices_Index_Lapi_Handle_api_Handle_1 N N (s, ((((List.length s) : Nat) : Int), ((0 : Int), (v, v2))))) fun z1 =>
  (match z1 with
  | .inl zy2 => some (-(1 : Int))
  | .inr zy3 => some zy3) := by kernel_rfl
theorem c_slices_Index_Lapi_Handle_api_Handle_ok (N : Nat) : (c_slices_Index_Lapi_Handle_api_Handle N).ok Try.prog := exF_ok (T := T) (CT := ct_slices_Index_Lapi_Handle_api_Handle) (N := N) (fun M => ⟨tOk, ctAll_nil, mixed, bwAll⟩) Try.func92 (by kernel_rfl) (by kernel_rfl) p_slices_Index_Lapi_Handle_api_Handle [.h (.sl (.pr (.i .i64) (.i .i64))), .ag [.h (.i .i64), .h (.i .i64)]] [] [(.sl (.pr (.i .i64) (.i .i64))), (.i .i64), (.i .i64)] r_slices_Index_Lapi_Handle_api_Handle false true [] (by kernel_rfl) (fun y => by kernel_rfl) (fun _ => ⟨rfl, rfl⟩) (fun y => by kernel_rfl) (m_slices_Index_Lapi_Handle_api_Handle N) (fun x => by kernel_rfl)
noncomputable def ct_slices_Contains_Lapi_Handle_api_Handle (N : Nat) : List Ctr := [c_slices_Index_Lapi_Handle_api_Handle N]
def p_slices_Contains_Lapi_Handle_api_Handle : Pl := .z
def r_slices_Contains_Lapi_Handle_api_Handle : PS := ⟨[(4, .h .b)], [], [.b]⟩
noncomputable def m_slices_Contains_Lapi_Handle_api_Handle (N : Nat) : (List (Int × Int)) × Int × Int → Option (Bool) := exF T ct_slices_Contains_Lapi_Handle_api_Handle N (bodyOf Try.f68) 9 p_slices_Contains_Lapi_Handle_api_Handle [.h (.sl (.pr (.i .i64) (.i .i64))), .ag [.h (.i .i64), .h (.i .i64)]] [] [(.sl (.pr (.i .i64) (.i .i64))), (.i .i64), (.i .i64)] r_slices_Contains_Lapi_Handle_api_Handle
noncomputable def c_slices_Contains_Lapi_Handle_api_Handle (N : Nat) : Ctr := ⟨68, [.h (.sl (.pr (.i .i64) (.i .i64))), .ag [.h (.i .i64), .h (.i .i64)]], [], [(.sl (.pr (.i .i64) (.i .i64))), (.i .i64), (.i .i64)], Tup r_slices_Contains_Lapi_Handle_api_Handle.c, m_slices_Contains_Lapi_Handle_api_Handle N, fun y _ k => k (resG T (mkPS 9 r_slices_Contains_Lapi_Handle_api_Handle y) Try.f68.results.toList) (keepH' [] (mkPS 9 r_slices_Contains_Lapi_Handle_api_Handle y).h), false, true⟩
theorem m_slices_Contains_Lapi_Handle_api_Handle_eq (N : Nat) (s : (List (Int × Int))) (v : Int) (v2 : Int) : m_slices_Contains_Lapi_Handle_api_Handle (N + 1) (s, v, v2) = obind (m_slices_Index_Lapi_Handle_api_Handle N (s, (v, v2))) fun z1 =>
  some (decide ((0 : Int) ≤ z1)) := by kernel_rfl
theorem c_slices_Contains_Lapi_Handle_api_Handle_ok (N : Nat) : (c_slices_Contains_Lapi_Handle_api_Handle N).ok Try.prog := exF_ok (T := T) (CT := ct_slices_Contains_Lapi_Handle_api_Handle) (N := N) (fun M => ⟨tOk, (ctAll_cons (c_slices_Index_Lapi_Handle_api_Handle_ok M) ctAll_nil), mixed, bwAll⟩) Try.func68 (by kernel_rfl) (by kernel_rfl) p_slices_Contains_Lapi_Handle_api_Handle [.h (.sl (.pr (.i .i64) (.i .i64))), .ag [.h (.i .i64), .h (.i .i64)]] [] [(.sl (.pr (.i .i64) (.i .i64))), (.i .i64), (.i .i64)] r_slices_Contains_Lapi_Handle_api_Handle false true [] (by kernel_rfl) (fun y => by kernel_rfl) (fun _ => ⟨rfl, rfl⟩) (fun y => by kernel_rfl) (m_slices_Contains_Lapi_Handle_api_Handle N) (fun x => by kernel_rfl)
noncomputable def ct_store_leadsF2_ph (N : Nat) : List Ctr := [c_slices_Contains_Lapi_Handle_api_Handle N]
def p_store_leadsF2_ph : Pl := .z
def r_store_leadsF2_ph : PS := ⟨[(3, .h .b)], [(4294967296, .box 36 [.h (.sl (.pr (.i .i64) (.i .i64)))])], [.b, (.sl (.pr (.i .i64) (.i .i64)))]⟩
noncomputable def m_store_leadsF2_ph (N : Nat) : Int × Int × (List (Int × Int)) → Option (Bool × (List (Int × Int))) := exF T ct_store_leadsF2_ph N (bodyOf Try.f67) 7 p_store_leadsF2_ph [.ag [.h (.i .i64), .h (.i .i64)], .k (.pt 4294967296 0)] [(4294967296, .box 36 [.h (.sl (.pr (.i .i64) (.i .i64)))])] [(.i .i64), (.i .i64), (.sl (.pr (.i .i64) (.i .i64)))] r_store_leadsF2_ph
noncomputable def c_store_leadsF2_ph (N : Nat) : Ctr := ⟨67, [.ag [.h (.i .i64), .h (.i .i64)], .k (.pt 4294967296 0)], [(4294967296, .box 36 [.h (.sl (.pr (.i .i64) (.i .i64)))])], [(.i .i64), (.i .i64), (.sl (.pr (.i .i64) (.i .i64)))], Tup r_store_leadsF2_ph.c, m_store_leadsF2_ph N, fun y _ k => k (resG T (mkPS 7 r_store_leadsF2_ph y) Try.f67.results.toList) (keepH' [4294967296] (mkPS 7 r_store_leadsF2_ph y).h), true, false⟩
theorem m_store_leadsF2_ph_eq (N : Nat) (h : Int) (h2 : Int) (v4294967296 : (List (Int × Int))) : m_store_leadsF2_ph (N + 1) (h, h2, v4294967296) = obind (m_slices_Contains_Lapi_Handle_api_Handle N (v4294967296, (h, h2))) fun z1 =>
  some (z1, v4294967296) := by kernel_rfl
theorem c_store_leadsF2_ph_ok (N : Nat) : (c_store_leadsF2_ph N).ok Try.prog := exF_ok (T := T) (CT := ct_store_leadsF2_ph) (N := N) (fun M => ⟨tOk, (ctAll_cons (c_slices_Contains_Lapi_Handle_api_Handle_ok M) ctAll_nil), mixed, bwAll⟩) Try.func67 (by kernel_rfl) (by kernel_rfl) p_store_leadsF2_ph [.ag [.h (.i .i64), .h (.i .i64)], .k (.pt 4294967296 0)] [(4294967296, .box 36 [.h (.sl (.pr (.i .i64) (.i .i64)))])] [(.i .i64), (.i .i64), (.sl (.pr (.i .i64) (.i .i64)))] r_store_leadsF2_ph true false [4294967296] (by kernel_rfl) (fun y => by kernel_rfl) (fun h => by cases h) (fun y => by kernel_rfl) (m_store_leadsF2_ph N) (fun x => by kernel_rfl)
noncomputable def ct_slices_IndexFunc_Lapi_Handle_api_Handle_store_leadsF2_f67ph (N : Nat) : List Ctr := [c_store_leadsF2_ph N]
def i_slices_IndexFunc_Lapi_Handle_api_Handle_store_leadsF2_f67ph_1 : PS := ⟨[(0, .h (.sl (.pr (.i .i64) (.i .i64)))), (1, .cl (.func 67) [] [.k (.pt 4294967296 0)]), (7, .h (.i .i64)), (8, .h (.i .i64))], [(4294967296, .box 36 [.h (.sl (.pr (.i .i64) (.i .i64)))])], [(.sl (.pr (.i .i64) (.i .i64))), (.i .i64), (.i .i64), (.sl (.pr (.i .i64) (.i .i64)))]⟩
def o_slices_IndexFunc_Lapi_Handle_api_Handle_store_leadsF2_f67ph_1 : List (Exit × PS) := [((.exit 0), ⟨[], [(4294967296, .box 36 [.h (.sl (.pr (.i .i64) (.i .i64)))])], [(.sl (.pr (.i .i64) (.i .i64)))]⟩), (.ret, ⟨[(4, .h (.i .i64))], [(4294967296, .box 36 [.h (.sl (.pr (.i .i64) (.i .i64)))])], [(.i .i64), (.sl (.pr (.i .i64) (.i .i64)))]⟩)]
def p_slices_IndexFunc_Lapi_Handle_api_Handle_store_leadsF2_f67ph_1 : Pl := .z
noncomputable def l_slices_IndexFunc_Lapi_Handle_api_Handle_store_leadsF2_f67ph_1 (N : Nat) : Nat → (List (Int × Int)) × Int × Int × (List (Int × Int)) → Option (((List (Int × Int))) ⊕ (Int × (List (Int × Int)))) := loopF (exC T (ct_slices_IndexFunc_Lapi_Handle_api_Handle_store_leadsF2_f67ph N) N (codeAt [1, 0, 1, 0, 0] (bodyOf Try.f91))) 19 i_slices_IndexFunc_Lapi_Handle_api_Handle_store_leadsF2_f67ph_1 o_slices_IndexFunc_Lapi_Handle_api_Handle_store_leadsF2_f67ph_1 p_slices_IndexFunc_Lapi_Handle_api_Handle_store_leadsF2_f67ph_1
def p_slices_IndexFunc_Lapi_Handle_api_Handle_store_leadsF2_f67ph : Pl := (.n .z (.n (.n .z (.n (.loop i_slices_IndexFunc_Lapi_Handle_api_Handle_store_leadsF2_f67ph_1 o_slices_IndexFunc_Lapi_Handle_api_Handle_store_leadsF2_f67ph_1 p_slices_IndexFunc_Lapi_Handle_api_Handle_store_leadsF2_f67ph_1) .z)) .z))
def r_slices_IndexFunc_Lapi_Handle_api_Handle_store_leadsF2_f67ph : PS := ⟨[(4, .h (.i .i64))], [(4294967296, .box 36 [.h (.sl (.pr (.i .i64) (.i .i64)))])], [(.i .i64), (.sl (.pr (.i .i64) (.i .i64)))]⟩
noncomputable def m_slices_IndexFunc_Lapi_Handle_api_Handle_store_leadsF2_f67ph (N : Nat) : (List (Int × Int)) × (List (Int × Int)) → Option (Int × (List (Int × Int))) := exF T ct_slices_IndexFunc_Lapi_Handle_api_Handle_store_leadsF2_f67ph N (bodyOf Try.f91) 19 p_slices_IndexFunc_Lapi_Handle_api_Handle_store_leadsF2_f67ph [.h (.sl (.pr (.i .i64) (.i .i64))), .cl (.func 67) [] [.k (.pt 4294967296 0)]] [(4294967296, .box 36 [.h (.sl (.pr (.i .i64) (.i .i64)))])] [(.sl (.pr (.i .i64) (.i .i64))), (.sl (.pr (.i .i64) (.i .i64)))] r_slices_IndexFunc_Lapi_Handle_api_Handle_store_leadsF2_f67ph
noncomputable def c_slices_IndexFunc_Lapi_Handle_api_Handle_store_leadsF2_f67ph (N : Nat) : Ctr := ⟨91, [.h (.sl (.pr (.i .i64) (.i .i64))), .cl (.func 67) [] [.k (.pt 4294967296 0)]], [(4294967296, .box 36 [.h (.sl (.pr (.i .i64) (.i .i64)))])], [(.sl (.pr (.i .i64) (.i .i64))), (.sl (.pr (.i .i64) (.i .i64)))], Tup r_slices_IndexFunc_Lapi_Handle_api_Handle_store_leadsF2_f67ph.c, m_slices_IndexFunc_Lapi_Handle_api_Handle_store_leadsF2_f67ph N, fun y _ k => k (resG T (mkPS 19 r_slices_IndexFunc_Lapi_Handle_api_Handle_store_leadsF2_f67ph y) Try.f91.results.toList) (keepH' [4294967296] (mkPS 19 r_slices_IndexFunc_Lapi_Handle_api_Handle_store_leadsF2_f67ph y).h), true, false⟩
theorem l_slices_IndexFunc_Lapi_Handle_api_Handle_store_leadsF2_f67ph_1_s (N m : Nat) (s : (List (Int × Int))) (v7 : Int) (v8 : Int) (f : (List (Int × Int))) : l_slices_IndexFunc_Lapi_Handle_api_Handle_store_leadsF2_f67ph_1 N (m + 1) (s, v7, v8, f) = cond (decide (v8 < v7))
   (obind (nthI s v8) fun z1 =>
    obind (m_store_leadsF2_ph N (z1.1, (z1.2, f))) fun z2 =>
    cond z2.1
     (some (.inr (v8, z2.2)))
     ((l_slices_IndexFunc_Lapi_Handle_api_Handle_store_leadsF2_f67ph_1 N m (s, (v7, ((IntKind.wrap .i64 (v8 + (1 : Int))), z2.2))))))
   (some (.inl f)) := by kernel_rfl
theorem m_slices_IndexFunc_Lapi_Handle_api_Handle_store_leadsF2_f67ph_eq (N : Nat) (s : (List (Int × Int))) (f : (List (Int × Int))) : m_slices_IndexFunc_Lapi_Handle_api_Handle_store_leadsF2_f67ph (N + 1) (s, f) = obind (l_slices_IndexFunc_Lapi_Handle_api_Handle_store_leadsF2_f67ph_1 N N (s, ((((List.length s) : Nat) : Int), ((0 : Int), f)))) fun z1 =>
  (match z1 with
  | .inl zy2 => some ((-(1 : Int)), zy2)
  | .inr zy3 => some (zy3.1, zy3.2)) := by kernel_rfl
theorem c_slices_IndexFunc_Lapi_Handle_api_Handle_store_leadsF2_f67ph_ok (N : Nat) : (c_slices_IndexFunc_Lapi_Handle_api_Handle_store_leadsF2_f67ph N).ok Try.prog := exF_ok (T := T) (CT := ct_slices_IndexFunc_Lapi_Handle_api_Handle_store_leadsF2_f67ph) (N := N) (fun M => ⟨tOk, (ctAll_cons (c_store_leadsF2_ph_ok M) ctAll_nil), mixed, bwAll⟩) Try.func91 (by kernel_rfl) (by kernel_rfl) p_slices_IndexFunc_Lapi_Handle_api_Handle_store_leadsF2_f67ph [.h (.sl (.pr (.i .i64) (.i .i64))), .cl (.func 67) [] [.k (.pt 4294967296 0)]] [(4294967296, .box 36 [.h (.sl (.pr (.i .i64) (.i .i64)))])] [(.sl (.pr (.i .i64) (.i .i64))), (.sl (.pr (.i .i64) (.i .i64)))] r_slices_IndexFunc_Lapi_Handle_api_Handle_store_leadsF2_f67ph true false [4294967296] (by kernel_rfl) (fun y => by kernel_rfl) (fun h => by cases h) (fun y => by kernel_rfl) (m_slices_IndexFunc_Lapi_Handle_api_Handle_store_leadsF2_f67ph N) (fun x => by kernel_rfl)
noncomputable def ct_slices_ContainsFunc_Lapi_Handle_api_Handle_store_leadsF2_f67ph (N : Nat) : List Ctr := [c_slices_IndexFunc_Lapi_Handle_api_Handle_store_leadsF2_f67ph N]
def p_slices_ContainsFunc_Lapi_Handle_api_Handle_store_leadsF2_f67ph : Pl := .z
def r_slices_ContainsFunc_Lapi_Handle_api_Handle_store_leadsF2_f67ph : PS := ⟨[(4, .h .b)], [(4294967296, .box 36 [.h (.sl (.pr (.i .i64) (.i .i64)))])], [.b, (.sl (.pr (.i .i64) (.i .i64)))]⟩
noncomputable def m_slices_ContainsFunc_Lapi_Handle_api_Handle_store_leadsF2_f67ph (N : Nat) : (List (Int × Int)) × (List (Int × Int)) → Option (Bool × (List (Int × Int))) := exF T ct_slices_ContainsFunc_Lapi_Handle_api_Handle_store_leadsF2_f67ph N (bodyOf Try.f65) 9 p_slices_ContainsFunc_Lapi_Handle_api_Handle_store_leadsF2_f67ph [.h (.sl (.pr (.i .i64) (.i .i64))), .cl (.func 67) [] [.k (.pt 4294967296 0)]] [(4294967296, .box 36 [.h (.sl (.pr (.i .i64) (.i .i64)))])] [(.sl (.pr (.i .i64) (.i .i64))), (.sl (.pr (.i .i64) (.i .i64)))] r_slices_ContainsFunc_Lapi_Handle_api_Handle_store_leadsF2_f67ph
noncomputable def c_slices_ContainsFunc_Lapi_Handle_api_Handle_store_leadsF2_f67ph (N : Nat) : Ctr := ⟨65, [.h (.sl (.pr (.i .i64) (.i .i64))), .cl (.func 67) [] [.k (.pt 4294967296 0)]], [(4294967296, .box 36 [.h (.sl (.pr (.i .i64) (.i .i64)))])], [(.sl (.pr (.i .i64) (.i .i64))), (.sl (.pr (.i .i64) (.i .i64)))], Tup r_slices_ContainsFunc_Lapi_Handle_api_Handle_store_leadsF2_f67ph.c, m_slices_ContainsFunc_Lapi_Handle_api_Handle_store_leadsF2_f67ph N, fun y _ k => k (resG T (mkPS 9 r_slices_ContainsFunc_Lapi_Handle_api_Handle_store_leadsF2_f67ph y) Try.f65.results.toList) (keepH' [4294967296] (mkPS 9 r_slices_ContainsFunc_Lapi_Handle_api_Handle_store_leadsF2_f67ph y).h), true, false⟩
theorem m_slices_ContainsFunc_Lapi_Handle_api_Handle_store_leadsF2_f67ph_eq (N : Nat) (s : (List (Int × Int))) (f : (List (Int × Int))) : m_slices_ContainsFunc_Lapi_Handle_api_Handle_store_leadsF2_f67ph (N + 1) (s, f) = obind (m_slices_IndexFunc_Lapi_Handle_api_Handle_store_leadsF2_f67ph N (s, f)) fun z1 =>
  some ((decide ((0 : Int) ≤ z1.1)), z1.2) := by kernel_rfl
theorem c_slices_ContainsFunc_Lapi_Handle_api_Handle_store_leadsF2_f67ph_ok (N : Nat) : (c_slices_ContainsFunc_Lapi_Handle_api_Handle_store_leadsF2_f67ph N).ok Try.prog := exF_ok (T := T) (CT := ct_slices_ContainsFunc_Lapi_Handle_api_Handle_store_leadsF2_f67ph) (N := N) (fun M => ⟨tOk, (ctAll_cons (c_slices_IndexFunc_Lapi_Handle_api_Handle_store_leadsF2_f67ph_ok M) ctAll_nil), mixed, bwAll⟩) Try.func65 (by kernel_rfl) (by kernel_rfl) p_slices_ContainsFunc_Lapi_Handle_api_Handle_store_leadsF2_f67ph [.h (.sl (.pr (.i .i64) (.i .i64))), .cl (.func 67) [] [.k (.pt 4294967296 0)]] [(4294967296, .box 36 [.h (.sl (.pr (.i .i64) (.i .i64)))])] [(.sl (.pr (.i .i64) (.i .i64))), (.sl (.pr (.i .i64) (.i .i64)))] r_slices_ContainsFunc_Lapi_Handle_api_Handle_store_leadsF2_f67ph true false [4294967296] (by kernel_rfl) (fun y => by kernel_rfl) (fun h => by cases h) (fun y => by kernel_rfl) (m_slices_ContainsFunc_Lapi_Handle_api_Handle_store_leadsF2_f67ph N) (fun x => by kernel_rfl)
noncomputable def ct_store_leads (N : Nat) : List Ctr := [c_slices_ContainsFunc_Lapi_Handle_api_Handle_store_leadsF1_f66ph N, c_slices_ContainsFunc_Lapi_Handle_api_Handle_store_leadsF2_f67ph N]
def i_store_leads_1 : PS := ⟨[(3, .k (.pt 900 0)), (9, .h (.sl (.pr (.i .i64) (.pr (.i .i64) (.sl (.pr (.i .i64) (.i .i64))))))), (10, .h (.i .i64)), (11, .h (.i .i64))], [(900, .box 36 [.h (.sl (.pr (.i .i64) (.i .i64)))])], [(.sl (.pr (.i .i64) (.pr (.i .i64) (.sl (.pr (.i .i64) (.i .i64)))))), (.i .i64), (.i .i64), (.sl (.pr (.i .i64) (.i .i64)))]⟩
def o_store_leads_1 : List (Exit × PS) := [((.exit 0), ⟨[], [], []⟩), (.ret, ⟨[(4, .h .b)], [], [.b]⟩)]
def p_store_leads_1 : Pl := .z
noncomputable def l_store_leads_1 (N : Nat) : Nat → (List (Int × (Int × (List (Int × Int))))) × Int × Int × (List (Int × Int)) → Option ((Unit) ⊕ (Bool)) := loopF (exC T (ct_store_leads N) N (codeAt [1, 0, 1, 0, 0] (bodyOf Try.f39))) 28 i_store_leads_1 o_store_leads_1 p_store_leads_1
def p_store_leads : Pl := (.n .z (.n (.n .z (.n (.loop i_store_leads_1 o_store_leads_1 p_store_leads_1) .z)) .z))
def r_store_leads : PS := ⟨[(4, .h .b)], [], [.b]⟩
noncomputable def m_store_leads (N : Nat) : (List Int) × (List Int) × (List (Int × (Int × (List (Int × Int))))) × (List (Int × Int)) → Option (Bool) := exF T ct_store_leads N (bodyOf Try.f39) 28 p_store_leads [.ag [.h (.sl (.i .i64)), .h (.sl (.i .i64)), .h (.sl (.pr (.i .i64) (.pr (.i .i64) (.sl (.pr (.i .i64) (.i .i64))))))], .h (.sl (.pr (.i .i64) (.i .i64)))] [] [(.sl (.i .i64)), (.sl (.i .i64)), (.sl (.pr (.i .i64) (.pr (.i .i64) (.sl (.pr (.i .i64) (.i .i64)))))), (.sl (.pr (.i .i64) (.i .i64)))] r_store_leads
noncomputable def c_store_leads (N : Nat) : Ctr := ⟨39, [.ag [.h (.sl (.i .i64)), .h (.sl (.i .i64)), .h (.sl (.pr (.i .i64) (.pr (.i .i64) (.sl (.pr (.i .i64) (.i .i64))))))], .h (.sl (.pr (.i .i64) (.i .i64)))], [], [(.sl (.i .i64)), (.sl (.i .i64)), (.sl (.pr (.i .i64) (.pr (.i .i64) (.sl (.pr (.i .i64) (.i .i64)))))), (.sl (.pr (.i .i64) (.i .i64)))], Tup r_store_leads.c, m_store_leads N, fun y _ k => k (resG T (mkPS 28 r_store_leads y) Try.f39.results.toList) (keepH' [] (mkPS 28 r_store_leads y).h), false, true⟩
theorem l_store_leads_1_s (N m : Nat) (v9 : (List (Int × (Int × (List (Int × Int)))))) (v10 : Int) (v11 : Int) (l : (List (Int × Int))) : l_store_leads_1 N (m + 1) (v9, v10, v11, l) = cond (decide (v11 < v10))
   (obind (nthI v9 v11) fun z1 =>
    obind (m_slices_ContainsFunc_Lapi_Handle_api_Handle_store_leadsF1_f66ph N (l, v11)) fun z2 =>
    cond (!z2.1)
     (obind (m_slices_ContainsFunc_Lapi_Handle_api_Handle_store_leadsF2_f67ph N (z1.2.2, l)) fun z3 =>
      cond z3.1
       (some (.inr true))
       ((l_store_leads_1 N m (v9, (v10, ((IntKind.wrap .i64 (v11 + (1 : Int))), z3.2))))))
     ((l_store_leads_1 N m (v9, (v10, ((IntKind.wrap .i64 (v11 + (1 : Int))), l))))))
   (some (.inl ())) := by kernel_rfl
theorem m_store_leads_eq (N : Nat) (s : (List Int)) (s2 : (List Int)) (s3 : (List (Int × (Int × (List (Int × Int)))))) (l : (List (Int × Int))) : m_store_leads (N + 1) (s, s2, s3, l) = obind (l_store_leads_1 N N (s3, ((((List.length s3) : Nat) : Int), ((0 : Int), l)))) fun z1 =>
  (match z1 with
  | .inl zy2 => some false
  | .inr zy3 => some zy3) := by kernel_rfl
theorem c_store_leads_ok (N : Nat) : (c_store_leads N).ok Try.prog := exF_ok (T := T) (CT := ct_store_leads) (N := N) (fun M => ⟨tOk, (ctAll_cons (c_slices_ContainsFunc_Lapi_Handle_api_Handle_store_leadsF1_f66ph_ok M) (ctAll_cons (c_slices_ContainsFunc_Lapi_Handle_api_Handle_store_leadsF2_f67ph_ok M) ctAll_nil)), mixed, bwAll⟩) Try.func39 (by kernel_rfl) (by kernel_rfl) p_store_leads [.ag [.h (.sl (.i .i64)), .h (.sl (.i .i64)), .h (.sl (.pr (.i .i64) (.pr (.i .i64) (.sl (.pr (.i .i64) (.i .i64))))))], .h (.sl (.pr (.i .i64) (.i .i64)))] [] [(.sl (.i .i64)), (.sl (.i .i64)), (.sl (.pr (.i .i64) (.pr (.i .i64) (.sl (.pr (.i .i64) (.i .i64)))))), (.sl (.pr (.i .i64) (.i .i64)))] r_store_leads false true [] (by kernel_rfl) (fun y => by kernel_rfl) (fun _ => ⟨rfl, rfl⟩) (fun y => by kernel_rfl) (m_store_leads N) (fun x => by kernel_rfl)
noncomputable def ct_slices_Backward_Lapi_Handle_api_Handle (N : Nat) : List Ctr := []
def p_slices_Backward_Lapi_Handle_api_Handle : Pl := .z
def r_slices_Backward_Lapi_Handle_api_Handle : PS := ⟨[(2, .cl (.func 69) [] [.k (.pt 900 0)])], [(900, .box 36 [.h (.sl (.pr (.i .i64) (.i .i64)))])], [(.sl (.pr (.i .i64) (.i .i64)))]⟩
noncomputable def m_slices_Backward_Lapi_Handle_api_Handle (N : Nat) : (List (Int × Int)) → Option ((List (Int × Int))) := exF T ct_slices_Backward_Lapi_Handle_api_Handle N (bodyOf Try.f41) 4 p_slices_Backward_Lapi_Handle_api_Handle [.h (.sl (.pr (.i .i64) (.i .i64)))] [] [(.sl (.pr (.i .i64) (.i .i64)))] r_slices_Backward_Lapi_Handle_api_Handle
noncomputable def c_slices_Backward_Lapi_Handle_api_Handle (N : Nat) : Ctr := ⟨41, [.h (.sl (.pr (.i .i64) (.i .i64)))], [], [(.sl (.pr (.i .i64) (.i .i64)))], Tup r_slices_Backward_Lapi_Handle_api_Handle.c, m_slices_Backward_Lapi_Handle_api_Handle N, fun y _ k => k (resG T (mkPS 4 r_slices_Backward_Lapi_Handle_api_Handle y) Try.f41.results.toList) (keepH' [900] (mkPS 4 r_slices_Backward_Lapi_Handle_api_Handle y).h), true, false⟩
theorem m_slices_Backward_Lapi_Handle_api_Handle_eq (N : Nat) (s : (List (Int × Int))) : m_slices_Backward_Lapi_Handle_api_Handle (N + 1) (s) = some s := by kernel_rfl
theorem c_slices_Backward_Lapi_Handle_api_Handle_ok (N : Nat) : (c_slices_Backward_Lapi_Handle_api_Handle N).ok Try.prog := exF_ok (T := T) (CT := ct_slices_Backward_Lapi_Handle_api_Handle) (N := N) (fun M => ⟨tOk, ctAll_nil, mixed, bwAll⟩) Try.func41 (by kernel_rfl) (by kernel_rfl) p_slices_Backward_Lapi_Handle_api_Handle [.h (.sl (.pr (.i .i64) (.i .i64)))] [] [(.sl (.pr (.i .i64) (.i .i64)))] r_slices_Backward_Lapi_Handle_api_Handle true false [900] (by kernel_rfl) (fun y => by kernel_rfl) (fun h => by cases h) (fun y => by kernel_rfl) (m_slices_Backward_Lapi_Handle_api_Handle N) (fun x => by kernel_rfl)
noncomputable def ct_pool_Give (N : Nat) : List Ctr := [c_pool_Right N, c_pool_Good N, c_slices_Clip_Lint_int N]
def p_pool_Give : Pl := .z
def r_pool_Give : PS := ⟨[(4, .k (.pt 900 0)), (5, .h (.i .i64))], [(900, .box 24 [.h (.sl (.i .i64)), .h (.sl (.i .i64))])], [(.i .i64), (.sl (.i .i64)), (.sl (.i .i64))]⟩
noncomputable def m_pool_Give (N : Nat) : (List Int) × (List Int) × Int × Int → Option (Int × (List Int) × (List Int)) := exF T ct_pool_Give N (bodyOf Try.f42) 24 p_pool_Give [.ag [.h (.sl (.i .i64)), .h (.sl (.i .i64))], .ag [.h (.i .i64), .h (.i .i64)]] [] [(.sl (.i .i64)), (.sl (.i .i64)), (.i .i64), (.i .i64)] r_pool_Give
noncomputable def c_pool_Give (N : Nat) : Ctr := ⟨42, [.ag [.h (.sl (.i .i64)), .h (.sl (.i .i64))], .ag [.h (.i .i64), .h (.i .i64)]], [], [(.sl (.i .i64)), (.sl (.i .i64)), (.i .i64), (.i .i64)], Tup r_pool_Give.c, m_pool_Give N, fun y _ k => k (resG T (mkPS 24 r_pool_Give y) Try.f42.results.toList) (keepH' [] (mkPS 24 r_pool_Give y).h), false, false⟩
theorem m_pool_Give_eq (N : Nat) (p : (List Int)) (p2 : (List Int)) (h : Int) (h2 : Int) : m_pool_Give (N + 1) (p, p2, h, h2) = obind (m_pool_Right N (p, p2)) fun z1 =>
  cond (!z1)
   (some ((1 : Int), (p, p2)))
   (obind (m_pool_Good N (p, (p2, (h, h2)))) fun z2 =>
    cond (!z2)
     (some ((3 : Int), (p, p2)))
     (obind (m_slices_Clip_Lint_int N p2) fun z3 =>
      obind (appI (8 : Nat) z3 [h]) fun z4 =>
      some ((0 : Int), (p, z4)))) := by kernel_rfl
theorem c_pool_Give_ok (N : Nat) : (c_pool_Give N).ok Try.prog := exF_ok (T := T) (CT := ct_pool_Give) (N := N) (fun M => ⟨tOk, (ctAll_cons (c_pool_Right_ok M) (ctAll_cons (c_pool_Good_ok M) (ctAll_cons (c_slices_Clip_Lint_int_ok M) ctAll_nil))), mixed, bwAll⟩) Try.func42 (by kernel_rfl) (by kernel_rfl) p_pool_Give [.ag [.h (.sl (.i .i64)), .h (.sl (.i .i64))], .ag [.h (.i .i64), .h (.i .i64)]] [] [(.sl (.i .i64)), (.sl (.i .i64)), (.i .i64), (.i .i64)] r_pool_Give false false [] (by kernel_rfl) (fun y => by kernel_rfl) (fun _ => ⟨rfl, rfl⟩) (fun y => by kernel_rfl) (m_pool_Give N) (fun x => by kernel_rfl)
noncomputable def ct_store_Give (N : Nat) : List Ctr := [c_store_Read N, c_store_leads N, c_slices_Clone_Lapi_Node_api_Node N, c_slices_Backward_Lapi_Handle_api_Handle N, c_pool_Give N]
def i_store_Give_1 : PS := ⟨[(4, .k (.pt 900 0)), (9, .k (.pt 901 0))], [(900, .box 27 [.k .nil, .k .nil, .k .nil]), (901, .box 27 [.h (.sl (.i .i64)), .h (.sl (.i .i64)), .k (.ow 902)]), (902, .arr 75 (.pr (.i .i64) (.pr (.i .i64) (.sl (.pr (.i .i64) (.i .i64))))) true)], [(.sl (.i .i64)), (.sl (.i .i64)), (.sl (.pr (.i .i64) (.pr (.i .i64) (.sl (.pr (.i .i64) (.i .i64))))))]⟩
def o_store_Give_1 : List (Exit × PS) := [(.normal, ⟨[(4, .k (.pt 900 0)), (9, .k (.pt 901 0))], [(900, .box 27 [.k .nil, .k .nil, .k .nil]), (901, .box 27 [.h (.sl (.i .i64)), .h (.sl (.i .i64)), .k (.ow 902)]), (902, .arr 75 (.pr (.i .i64) (.pr (.i .i64) (.sl (.pr (.i .i64) (.i .i64))))) true)], [(.sl (.i .i64)), (.sl (.i .i64)), (.sl (.pr (.i .i64) (.pr (.i .i64) (.sl (.pr (.i .i64) (.i .i64))))))]⟩)]
def p_store_Give_1 : Pl := (.n .z .z)
noncomputable def l_store_Give_1 (N : Nat) : List (Int × (Int × Int)) → (List Int) × (List Int) × (List (Int × (Int × (List (Int × Int))))) → Option ((List Int) × (List Int) × (List (Int × (Int × (List (Int × Int)))))) := rfF (exC T (ct_store_Give N) N (codeAt [1, 1, 1, 1, 0, 1, 0, 0] (bodyOf Try.f13))) (exC T (ct_store_Give N) N (codeAt [1, 1, 1, 1, 0, 1, 0, 1] (bodyOf Try.f13))) 54 i_store_Give_1 o_store_Give_1 p_store_Give_1 (rfPs (codeAt [1, 1, 1, 1, 0, 1, 0] (bodyOf Try.f13))) (rfWr (codeAt [1, 1, 1, 1, 0, 1, 0] (bodyOf Try.f13)))
def p_store_Give : Pl := (.n .z (.n .z (.n .z (.n .z (.n (.n .z (.n (.loop i_store_Give_1 o_store_Give_1 p_store_Give_1) .z)) .z)))))
def r_store_Give : PS := ⟨[(4, .k (.pt 900 0)), (5, .h (.i .i64))], [(900, .box 27 [.h (.sl (.i .i64)), .h (.sl (.i .i64)), .h (.sl (.pr (.i .i64) (.pr (.i .i64) (.sl (.pr (.i .i64) (.i .i64))))))])], [(.i .i64), (.sl (.i .i64)), (.sl (.i .i64)), (.sl (.pr (.i .i64) (.pr (.i .i64) (.sl (.pr (.i .i64) (.i .i64))))))]⟩
noncomputable def m_store_Give (N : Nat) : (List Int) × (List Int) × (List (Int × (Int × (List (Int × Int))))) × Int × Int → Option (Int × (List Int) × (List Int) × (List (Int × (Int × (List (Int × Int)))))) := exF T ct_store_Give N (bodyOf Try.f13) 54 p_store_Give [.ag [.h (.sl (.i .i64)), .h (.sl (.i .i64)), .h (.sl (.pr (.i .i64) (.pr (.i .i64) (.sl (.pr (.i .i64) (.i .i64))))))], .ag [.h (.i .i64), .h (.i .i64)]] [] [(.sl (.i .i64)), (.sl (.i .i64)), (.sl (.pr (.i .i64) (.pr (.i .i64) (.sl (.pr (.i .i64) (.i .i64)))))), (.i .i64), (.i .i64)] r_store_Give
noncomputable def c_store_Give (N : Nat) : Ctr := ⟨13, [.ag [.h (.sl (.i .i64)), .h (.sl (.i .i64)), .h (.sl (.pr (.i .i64) (.pr (.i .i64) (.sl (.pr (.i .i64) (.i .i64))))))], .ag [.h (.i .i64), .h (.i .i64)]], [], [(.sl (.i .i64)), (.sl (.i .i64)), (.sl (.pr (.i .i64) (.pr (.i .i64) (.sl (.pr (.i .i64) (.i .i64)))))), (.i .i64), (.i .i64)], Tup r_store_Give.c, m_store_Give N, fun y _ k => k (resG T (mkPS 54 r_store_Give y) Try.f13.results.toList) (keepH' [] (mkPS 54 r_store_Give y).h), false, false⟩
theorem l_store_Give_1_z (N : Nat) (out : (List Int)) (out2 : (List Int)) (v902 : (List (Int × (Int × (List (Int × Int)))))) : l_store_Give_1 N [] (out, out2, v902) = some (out, (out2, v902)) := by kernel_rfl
theorem l_store_Give_1_s (N : Nat) (ri rc rg : Int) (rl : List (Int × (Int × Int))) (out : (List Int)) (out2 : (List Int)) (v902 : (List (Int × (Int × (List (Int × Int)))))) : l_store_Give_1 N ((ri, (rc, rg)) :: rl) (out, out2, v902) = obind (m_pool_Give N (out, (out2, (rc, rg)))) fun z1 =>
  obind (nthI v902 rc) fun z2 =>
  obind (nthI v902 rc) fun z3 =>
  (l_store_Give_1 N rl (z1.2.1, (z1.2.2, (List.set v902 (Int.toNat rc) ((0 : Int), ((0 : Int), [])))))) := by kernel_rfl
theorem m_store_Give_eq (N : Nat) (s : (List Int)) (s2 : (List Int)) (s3 : (List (Int × (Int × (List (Int × Int)))))) (h : Int) (h2 : Int) : m_store_Give (N + 1) (s, s2, s3, h, h2) = obind (m_store_Read N (s, (s2, (s3, (h, h2))))) fun z1 =>
  cond (!(decide (z1.1 = (0 : Int))))
   (some (z1.1, (s, (s2, s3))))
   (obind (m_store_leads N (s, (s2, (s3, z1.2.2.2.2)))) fun z2 =>
    cond z2
     (some ((5 : Int), (s, (s2, s3))))
     (obind (m_slices_Clone_Lapi_Node_api_Node N s3) fun z3 =>
      obind (m_slices_Backward_Lapi_Handle_api_Handle N z1.2.2.2.2) fun z4 =>
      obind (l_store_Give_1 N (bwI z4) (s, (s2, z3))) fun z5 =>
      some ((0 : Int), (z5.1, (z5.2.1, z5.2.2))))) := by kernel_rfl
theorem c_store_Give_ok (N : Nat) : (c_store_Give N).ok Try.prog := exF_ok (T := T) (CT := ct_store_Give) (N := N) (fun M => ⟨tOk, (ctAll_cons (c_store_Read_ok M) (ctAll_cons (c_store_leads_ok M) (ctAll_cons (c_slices_Clone_Lapi_Node_api_Node_ok M) (ctAll_cons (c_slices_Backward_Lapi_Handle_api_Handle_ok M) (ctAll_cons (c_pool_Give_ok M) ctAll_nil))))), mixed, bwAll⟩) Try.func13 (by kernel_rfl) (by kernel_rfl) p_store_Give [.ag [.h (.sl (.i .i64)), .h (.sl (.i .i64)), .h (.sl (.pr (.i .i64) (.pr (.i .i64) (.sl (.pr (.i .i64) (.i .i64))))))], .ag [.h (.i .i64), .h (.i .i64)]] [] [(.sl (.i .i64)), (.sl (.i .i64)), (.sl (.pr (.i .i64) (.pr (.i .i64) (.sl (.pr (.i .i64) (.i .i64)))))), (.i .i64), (.i .i64)] r_store_Give false false [] (by kernel_rfl) (fun y => by kernel_rfl) (fun _ => ⟨rfl, rfl⟩) (fun y => by kernel_rfl) (m_store_Give N) (fun x => by kernel_rfl)
noncomputable def ct_ref01_Ints (N : Nat) : List Ctr := []
def i_ref01_Ints_1 : PS := ⟨[(0, .h (.sl (.i .i64))), (1, .h (.sl (.i .i64))), (5, .h (.i .i64))], [], [(.sl (.i .i64)), (.sl (.i .i64)), (.i .i64)]⟩
def o_ref01_Ints_1 : List (Exit × PS) := [((.exit 0), ⟨[], [], []⟩), (.ret, ⟨[(4, .h .b)], [], [.b]⟩)]
def p_ref01_Ints_1 : Pl := .z
noncomputable def l_ref01_Ints_1 (N : Nat) : Nat → (List Int) × (List Int) × Int → Option ((Unit) ⊕ (Bool)) := loopF (exC T (ct_ref01_Ints N) N (codeAt [1, 1, 0, 1, 0, 0] (bodyOf Try.f26))) 26 i_ref01_Ints_1 o_ref01_Ints_1 p_ref01_Ints_1
def p_ref01_Ints : Pl := (.n .z (.n .z (.n (.n .z (.n (.loop i_ref01_Ints_1 o_ref01_Ints_1 p_ref01_Ints_1) .z)) .z)))
def r_ref01_Ints : PS := ⟨[(4, .h .b)], [], [.b]⟩
noncomputable def m_ref01_Ints (N : Nat) : (List Int) × (List Int) → Option (Bool) := exF T ct_ref01_Ints N (bodyOf Try.f26) 26 p_ref01_Ints [.h (.sl (.i .i64)), .h (.sl (.i .i64))] [] [(.sl (.i .i64)), (.sl (.i .i64))] r_ref01_Ints
noncomputable def c_ref01_Ints (N : Nat) : Ctr := ⟨26, [.h (.sl (.i .i64)), .h (.sl (.i .i64))], [], [(.sl (.i .i64)), (.sl (.i .i64))], Tup r_ref01_Ints.c, m_ref01_Ints N, fun y _ k => k (resG T (mkPS 26 r_ref01_Ints y) Try.f26.results.toList) (keepH' [] (mkPS 26 r_ref01_Ints y).h), false, true⟩
theorem l_ref01_Ints_1_s (N m : Nat) (a : (List Int)) (b : (List Int)) (i : Int) : l_ref01_Ints_1 N (m + 1) (a, b, i) = cond (decide (i < (((List.length a) : Nat) : Int)))
   (obind (nthI a i) fun z1 =>
    obind (nthI b i) fun z2 =>
    cond (!(decide (z1 = z2)))
     (some (.inr false))
     ((l_ref01_Ints_1 N m (a, (b, (IntKind.wrap .i64 (i + (1 : Int))))))))
   (some (.inl ())) := by kernel_rfl
theorem m_ref01_Ints_eq (N : Nat) (a : (List Int)) (b : (List Int)) : m_ref01_Ints (N + 1) (a, b) = cond (!(decide ((((List.length a) : Nat) : Int) = (((List.length b) : Nat) : Int))))
   (some false)
   (obind (l_ref01_Ints_1 N N (a, (b, (0 : Int)))) fun z1 =>
    (match z1 with
    | .inl zy2 => some true
    | .inr zy3 => some zy3)) := by kernel_rfl
theorem c_ref01_Ints_ok (N : Nat) : (c_ref01_Ints N).ok Try.prog := exF_ok (T := T) (CT := ct_ref01_Ints) (N := N) (fun M => ⟨tOk, ctAll_nil, mixed, bwAll⟩) Try.func26 (by kernel_rfl) (by kernel_rfl) p_ref01_Ints [.h (.sl (.i .i64)), .h (.sl (.i .i64))] [] [(.sl (.i .i64)), (.sl (.i .i64))] r_ref01_Ints false true [] (by kernel_rfl) (fun y => by kernel_rfl) (fun _ => ⟨rfl, rfl⟩) (fun y => by kernel_rfl) (m_ref01_Ints N) (fun x => by kernel_rfl)
noncomputable def ct_ref14_Lists (N : Nat) : List Ctr := [c_ref01_Ints N]
def i_ref14_Lists_1 : PS := ⟨[(0, .h (.sl (.sl (.i .i64)))), (1, .h (.sl (.sl (.i .i64)))), (5, .h (.i .i64))], [], [(.sl (.sl (.i .i64))), (.sl (.sl (.i .i64))), (.i .i64)]⟩
def o_ref14_Lists_1 : List (Exit × PS) := [((.exit 0), ⟨[], [], []⟩), (.ret, ⟨[(4, .h .b)], [], [.b]⟩)]
def p_ref14_Lists_1 : Pl := .z
noncomputable def l_ref14_Lists_1 (N : Nat) : Nat → (List (List Int)) × (List (List Int)) × Int → Option ((Unit) ⊕ (Bool)) := loopF (exC T (ct_ref14_Lists N) N (codeAt [1, 1, 0, 1, 0, 0] (bodyOf Try.f44))) 27 i_ref14_Lists_1 o_ref14_Lists_1 p_ref14_Lists_1
def p_ref14_Lists : Pl := (.n .z (.n .z (.n (.n .z (.n (.loop i_ref14_Lists_1 o_ref14_Lists_1 p_ref14_Lists_1) .z)) .z)))
def r_ref14_Lists : PS := ⟨[(4, .h .b)], [], [.b]⟩
noncomputable def m_ref14_Lists (N : Nat) : (List (List Int)) × (List (List Int)) → Option (Bool) := exF T ct_ref14_Lists N (bodyOf Try.f44) 27 p_ref14_Lists [.h (.sl (.sl (.i .i64))), .h (.sl (.sl (.i .i64)))] [] [(.sl (.sl (.i .i64))), (.sl (.sl (.i .i64)))] r_ref14_Lists
noncomputable def c_ref14_Lists (N : Nat) : Ctr := ⟨44, [.h (.sl (.sl (.i .i64))), .h (.sl (.sl (.i .i64)))], [], [(.sl (.sl (.i .i64))), (.sl (.sl (.i .i64)))], Tup r_ref14_Lists.c, m_ref14_Lists N, fun y _ k => k (resG T (mkPS 27 r_ref14_Lists y) Try.f44.results.toList) (keepH' [] (mkPS 27 r_ref14_Lists y).h), false, true⟩
theorem l_ref14_Lists_1_s (N m : Nat) (a : (List (List Int))) (b : (List (List Int))) (i : Int) : l_ref14_Lists_1 N (m + 1) (a, b, i) = cond (decide (i < (((List.length a) : Nat) : Int)))
   (obind (nthI a i) fun z1 =>
    obind (nthI b i) fun z2 =>
    obind (m_ref01_Ints N (z1, z2)) fun z3 =>
    cond (!z3)
     (some (.inr false))
     ((l_ref14_Lists_1 N m (a, (b, (IntKind.wrap .i64 (i + (1 : Int))))))))
   (some (.inl ())) := by kernel_rfl
theorem m_ref14_Lists_eq (N : Nat) (a : (List (List Int))) (b : (List (List Int))) : m_ref14_Lists (N + 1) (a, b) = cond (!(decide ((((List.length a) : Nat) : Int) = (((List.length b) : Nat) : Int))))
   (some false)
   (obind (l_ref14_Lists_1 N N (a, (b, (0 : Int)))) fun z1 =>
    (match z1 with
    | .inl zy2 => some true
    | .inr zy3 => some zy3)) := by kernel_rfl
theorem c_ref14_Lists_ok (N : Nat) : (c_ref14_Lists N).ok Try.prog := exF_ok (T := T) (CT := ct_ref14_Lists) (N := N) (fun M => ⟨tOk, (ctAll_cons (c_ref01_Ints_ok M) ctAll_nil), mixed, bwAll⟩) Try.func44 (by kernel_rfl) (by kernel_rfl) p_ref14_Lists [.h (.sl (.sl (.i .i64))), .h (.sl (.sl (.i .i64)))] [] [(.sl (.sl (.i .i64))), (.sl (.sl (.i .i64)))] r_ref14_Lists false true [] (by kernel_rfl) (fun y => by kernel_rfl) (fun _ => ⟨rfl, rfl⟩) (fun y => by kernel_rfl) (m_ref14_Lists N) (fun x => by kernel_rfl)
noncomputable def ct_ref14_Same (N : Nat) : List Ctr := [c_ref01_Ints N, c_ref14_Lists N]
def p_ref14_Same : Pl := .z
def r_ref14_Same : PS := ⟨[(4, .h .b)], [], [.b]⟩
noncomputable def m_ref14_Same (N : Nat) : (List Int) × (List Int) × (List (List Int)) × (List Int) × (List Int) × (List (List Int)) → Option (Bool) := exF T ct_ref14_Same N (bodyOf Try.f15) 24 p_ref14_Same [.ag [.h (.sl (.i .i64)), .h (.sl (.i .i64)), .h (.sl (.sl (.i .i64)))], .ag [.h (.sl (.i .i64)), .h (.sl (.i .i64)), .h (.sl (.sl (.i .i64)))]] [] [(.sl (.i .i64)), (.sl (.i .i64)), (.sl (.sl (.i .i64))), (.sl (.i .i64)), (.sl (.i .i64)), (.sl (.sl (.i .i64)))] r_ref14_Same
noncomputable def c_ref14_Same (N : Nat) : Ctr := ⟨15, [.ag [.h (.sl (.i .i64)), .h (.sl (.i .i64)), .h (.sl (.sl (.i .i64)))], .ag [.h (.sl (.i .i64)), .h (.sl (.i .i64)), .h (.sl (.sl (.i .i64)))]], [], [(.sl (.i .i64)), (.sl (.i .i64)), (.sl (.sl (.i .i64))), (.sl (.i .i64)), (.sl (.i .i64)), (.sl (.sl (.i .i64)))], Tup r_ref14_Same.c, m_ref14_Same N, fun y _ k => k (resG T (mkPS 24 r_ref14_Same y) Try.f15.results.toList) (keepH' [] (mkPS 24 r_ref14_Same y).h), false, true⟩
theorem m_ref14_Same_eq (N : Nat) (a : (List Int)) (a2 : (List Int)) (a3 : (List (List Int))) (b : (List Int)) (b2 : (List Int)) (b3 : (List (List Int))) : m_ref14_Same (N + 1) (a, a2, a3, b, b2, b3) = obind (m_ref01_Ints N (a, b)) fun z1 =>
  cond z1
   (obind (m_ref01_Ints N (a2, b2)) fun z2 =>
    cond z2
     (obind (m_ref14_Lists N (a3, b3)) fun z3 =>
      some z3)
     (some false))
   (some false) := by kernel_rfl
theorem c_ref14_Same_ok (N : Nat) : (c_ref14_Same N).ok Try.prog := exF_ok (T := T) (CT := ct_ref14_Same) (N := N) (fun M => ⟨tOk, (ctAll_cons (c_ref01_Ints_ok M) (ctAll_cons (c_ref14_Lists_ok M) ctAll_nil)), mixed, bwAll⟩) Try.func15 (by kernel_rfl) (by kernel_rfl) p_ref14_Same [.ag [.h (.sl (.i .i64)), .h (.sl (.i .i64)), .h (.sl (.sl (.i .i64)))], .ag [.h (.sl (.i .i64)), .h (.sl (.i .i64)), .h (.sl (.sl (.i .i64)))]] [] [(.sl (.i .i64)), (.sl (.i .i64)), (.sl (.sl (.i .i64))), (.sl (.i .i64)), (.sl (.i .i64)), (.sl (.sl (.i .i64)))] r_ref14_Same false true [] (by kernel_rfl) (fun y => by kernel_rfl) (fun _ => ⟨rfl, rfl⟩) (fun y => by kernel_rfl) (m_ref14_Same N) (fun x => by kernel_rfl)
noncomputable def ct_ref30_Handles (N : Nat) : List Ctr := []
def i_ref30_Handles_1 : PS := ⟨[(0, .h (.sl (.pr (.i .i64) (.i .i64)))), (1, .h (.sl (.pr (.i .i64) (.i .i64)))), (5, .h (.i .i64))], [], [(.sl (.pr (.i .i64) (.i .i64))), (.sl (.pr (.i .i64) (.i .i64))), (.i .i64)]⟩
def o_ref30_Handles_1 : List (Exit × PS) := [((.exit 0), ⟨[], [], []⟩), (.ret, ⟨[(4, .h .b)], [], [.b]⟩)]
def p_ref30_Handles_1 : Pl := .z
noncomputable def l_ref30_Handles_1 (N : Nat) : Nat → (List (Int × Int)) × (List (Int × Int)) × Int → Option ((Unit) ⊕ (Bool)) := loopF (exC T (ct_ref30_Handles N) N (codeAt [1, 1, 0, 1, 0, 0] (bodyOf Try.f16))) 26 i_ref30_Handles_1 o_ref30_Handles_1 p_ref30_Handles_1
def p_ref30_Handles : Pl := (.n .z (.n .z (.n (.n .z (.n (.loop i_ref30_Handles_1 o_ref30_Handles_1 p_ref30_Handles_1) .z)) .z)))
def r_ref30_Handles : PS := ⟨[(4, .h .b)], [], [.b]⟩
noncomputable def m_ref30_Handles (N : Nat) : (List (Int × Int)) × (List (Int × Int)) → Option (Bool) := exF T ct_ref30_Handles N (bodyOf Try.f16) 26 p_ref30_Handles [.h (.sl (.pr (.i .i64) (.i .i64))), .h (.sl (.pr (.i .i64) (.i .i64)))] [] [(.sl (.pr (.i .i64) (.i .i64))), (.sl (.pr (.i .i64) (.i .i64)))] r_ref30_Handles
noncomputable def c_ref30_Handles (N : Nat) : Ctr := ⟨16, [.h (.sl (.pr (.i .i64) (.i .i64))), .h (.sl (.pr (.i .i64) (.i .i64)))], [], [(.sl (.pr (.i .i64) (.i .i64))), (.sl (.pr (.i .i64) (.i .i64)))], Tup r_ref30_Handles.c, m_ref30_Handles N, fun y _ k => k (resG T (mkPS 26 r_ref30_Handles y) Try.f16.results.toList) (keepH' [] (mkPS 26 r_ref30_Handles y).h), false, true⟩
theorem l_ref30_Handles_1_s (N m : Nat) (a : (List (Int × Int))) (b : (List (Int × Int))) (i : Int) : l_ref30_Handles_1 N (m + 1) (a, b, i) = cond (decide (i < (((List.length a) : Nat) : Int)))
   (obind (nthI a i) fun z1 =>
    obind (nthI b i) fun z2 =>
    cond (!((decide (z1.1 = z2.1)) && (decide (z1.2 = z2.2))))
     (some (.inr false))
     ((l_ref30_Handles_1 N m (a, (b, (IntKind.wrap .i64 (i + (1 : Int))))))))
   (some (.inl ())) := by kernel_rfl
theorem m_ref30_Handles_eq (N : Nat) (a : (List (Int × Int))) (b : (List (Int × Int))) : m_ref30_Handles (N + 1) (a, b) = cond (!(decide ((((List.length a) : Nat) : Int) = (((List.length b) : Nat) : Int))))
   (some false)
   (obind (l_ref30_Handles_1 N N (a, (b, (0 : Int)))) fun z1 =>
    (match z1 with
    | .inl zy2 => some true
    | .inr zy3 => some zy3)) := by kernel_rfl
theorem c_ref30_Handles_ok (N : Nat) : (c_ref30_Handles N).ok Try.prog := exF_ok (T := T) (CT := ct_ref30_Handles) (N := N) (fun M => ⟨tOk, ctAll_nil, mixed, bwAll⟩) Try.func16 (by kernel_rfl) (by kernel_rfl) p_ref30_Handles [.h (.sl (.pr (.i .i64) (.i .i64))), .h (.sl (.pr (.i .i64) (.i .i64)))] [] [(.sl (.pr (.i .i64) (.i .i64))), (.sl (.pr (.i .i64) (.i .i64)))] r_ref30_Handles false true [] (by kernel_rfl) (fun y => by kernel_rfl) (fun _ => ⟨rfl, rfl⟩) (fun y => by kernel_rfl) (m_ref30_Handles N) (fun x => by kernel_rfl)
end Go.Proofs.Ytdahghkmejnlgaa
end
section
set_option linter.unusedVariables false
set_option maxRecDepth 100000
namespace Go.Proofs.Ytdahghkmejnlgaa
open Go Go.RowKit
noncomputable def ct_law30_alive (N : Nat) : List Ctr := [c_ref14_Build N, c_store_Make N, c_store_Put N, c_store_Read N, c_store_Give N, c_ref01_Ints N, c_ref14_Same N, c_ref30_Handles N, c_store_Right N]
def p_law30_alive : Pl := .z
def r_law30_alive : PS := ⟨[(0, .h .b)], [], [.b]⟩
noncomputable def m_law30_alive (N : Nat) : Unit → Option (Bool) := exF T ct_law30_alive N (bodyOf Try.f8) 181 p_law30_alive [] [] [] r_law30_alive
noncomputable def c_law30_alive (N : Nat) : Ctr := ⟨8, [], [], [], Tup r_law30_alive.c, m_law30_alive N, fun y _ k => k (resG T (mkPS 181 r_law30_alive y) Try.f8.results.toList) (keepH' [] (mkPS 181 r_law30_alive y).h), false, true⟩
theorem m_law30_alive_eq (N : Nat) : m_law30_alive (N + 1) () = obind (m_ref14_Build N ([(4 : Int), (7 : Int)], [(1 : Int), (2 : Int)])) fun z1 =>
  obind (m_ref14_Build N ([(9 : Int)], [(3 : Int)])) fun z2 =>
  obind (m_store_Make N (3 : Int)) fun z3 =>
  obind (m_store_Put N (z3.2.1, (z3.2.2.1, (z3.2.2.2, (z1.2.1, (z1.2.2.1, z1.2.2.2)))))) fun z4 =>
  obind (m_store_Put N (z4.2.1, (z4.2.2.1, (z4.2.2.2.1, (z2.2.1, (z2.2.2.1, z2.2.2.2)))))) fun z5 =>
  obind (m_store_Put N (z5.2.1, (z5.2.2.1, (z5.2.2.2.1, (z2.2.1, (z2.2.2.1, z2.2.2.2)))))) fun z6 =>
  obind (m_store_Read N (z5.2.1, (z5.2.2.1, (z5.2.2.2.1, ((1 : Int), (1 : Int)))))) fun z7 =>
  obind (m_store_Give N (z5.2.1, (z5.2.2.1, (z5.2.2.2.1, (z4.2.2.2.2.1, z4.2.2.2.2.2))))) fun z8 =>
  obind (m_store_Read N (z8.2.1, (z8.2.2.1, (z8.2.2.2, (z4.2.2.2.2.1, z4.2.2.2.2.2))))) fun z9 =>
  obind (m_store_Read N (z8.2.1, (z8.2.2.1, (z8.2.2.2, (z5.2.2.2.2.1, z5.2.2.2.2.2))))) fun z10 =>
  cond (!(decide (z3.1 = (0 : Int))))
   (some false)
   (cond (!(decide (z4.1 = (0 : Int))))
     (some false)
     (cond (!(decide (z5.1 = (0 : Int))))
       (some false)
       (cond (!(decide (z6.1 = (2 : Int))))
         (some false)
         (cond (!(decide (z7.1 = (0 : Int))))
           (some false)
           (cond (!(decide (z8.1 = (0 : Int))))
             (some false)
             (cond (!(decide (z9.1 = (3 : Int))))
               (some false)
               (cond (!(decide (z10.1 = (0 : Int))))
                 (some false)
                 (cond (!(decide ((((List.length z7.2.2.2.2) : Nat) : Int) = (2 : Int))))
                   (some false)
                   (cond (!(decide ((((List.length z10.2.2.2.2) : Nat) : Int) = (1 : Int))))
                     (some false)
                     (cond (!(decide ((((List.length z5.2.2.2.1) : Nat) : Int) = (3 : Int))))
                       (some false)
                       (cond ((decide (z4.2.2.2.2.1 = (0 : Int))) && (decide (z4.2.2.2.2.2 = (1 : Int))))
                         (cond ((decide (z5.2.2.2.2.1 = (2 : Int))) && (decide (z5.2.2.2.2.2 = (1 : Int))))
                           (obind (m_ref01_Ints N (z7.2.1, [(7 : Int), (4 : Int)])) fun z11 =>
                            cond z11
                             (obind (m_ref14_Same N (z10.2.1, (z10.2.2.1, (z10.2.2.2.1, (z2.2.1, (z2.2.2.1, z2.2.2.2)))))) fun z12 =>
                              cond z12
                               (obind (nthI z5.2.2.2.1 (1 : Int)) fun z13 =>
                                obind (m_ref30_Handles N (z13.2.2, [((0 : Int), (1 : Int)), ((1 : Int), (1 : Int))])) fun z14 =>
                                cond z14
                                 (obind (m_ref01_Ints N (z8.2.2.1, [(1 : Int), (0 : Int)])) fun z15 =>
                                  cond z15
                                   (obind (m_store_Right N (z8.2.1, (z8.2.2.1, z8.2.2.2))) fun z16 =>
                                    cond z16
                                     (obind (m_store_Right N ([], ([], []))) fun z17 =>
                                      some (!z17))
                                     (some false))
                                   (some false))
                                 (some false))
                               (some false))
                             (some false))
                           (some false))
                         (some false)))))))))))) := by kernel_rfl
theorem c_law30_alive_ok (N : Nat) : (c_law30_alive N).ok Try.prog := exF_ok (T := T) (CT := ct_law30_alive) (N := N) (fun M => ⟨tOk, (ctAll_cons (c_ref14_Build_ok M) (ctAll_cons (c_store_Make_ok M) (ctAll_cons (c_store_Put_ok M) (ctAll_cons (c_store_Read_ok M) (ctAll_cons (c_store_Give_ok M) (ctAll_cons (c_ref01_Ints_ok M) (ctAll_cons (c_ref14_Same_ok M) (ctAll_cons (c_ref30_Handles_ok M) (ctAll_cons (c_store_Right_ok M) ctAll_nil))))))))), mixed, bwAll⟩) Try.func8 (by kernel_rfl) (by kernel_rfl) p_law30_alive [] [] [] r_law30_alive false true [] (by kernel_rfl) (fun y => by kernel_rfl) (fun _ => ⟨rfl, rfl⟩) (fun y => by kernel_rfl) (m_law30_alive N) (fun x => by kernel_rfl)
noncomputable def ct_ref30_Great (N : Nat) : List Ctr := []
def i_ref30_Great_1 : PS := ⟨[(1, .k (.pt 900 0)), (3, .h (.i .i64)), (4, .h (.i .i64))], [(900, .box 27 [.h (.sl (.i .i64)), .h (.sl (.i .i64)), .h (.sl (.pr (.i .i64) (.pr (.i .i64) (.sl (.pr (.i .i64) (.i .i64))))))])], [(.i .i64), (.i .i64), (.sl (.i .i64)), (.sl (.i .i64)), (.sl (.pr (.i .i64) (.pr (.i .i64) (.sl (.pr (.i .i64) (.i .i64))))))]⟩
def o_ref30_Great_1 : List (Exit × PS) := [((.exit 0), ⟨[(3, .h (.i .i64))], [], [(.i .i64)]⟩)]
def p_ref30_Great_1 : Pl := .z
noncomputable def l_ref30_Great_1 (N : Nat) : Nat → Int × Int × (List Int) × (List Int) × (List (Int × (Int × (List (Int × Int))))) → Option (Int) := loopF (exC T (ct_ref30_Great N) N (codeAt [1, 1, 0, 1, 0, 0] (bodyOf Try.f9))) 40 i_ref30_Great_1 o_ref30_Great_1 p_ref30_Great_1
def p_ref30_Great : Pl := (.n .z (.n .z (.n (.n .z (.n (.loop i_ref30_Great_1 o_ref30_Great_1 p_ref30_Great_1) .z)) .z)))
def r_ref30_Great : PS := ⟨[(2, .h .b)], [], [.b]⟩
noncomputable def m_ref30_Great (N : Nat) : (List Int) × (List Int) × (List (Int × (Int × (List (Int × Int))))) → Option (Bool) := exF T ct_ref30_Great N (bodyOf Try.f9) 40 p_ref30_Great [.ag [.h (.sl (.i .i64)), .h (.sl (.i .i64)), .h (.sl (.pr (.i .i64) (.pr (.i .i64) (.sl (.pr (.i .i64) (.i .i64))))))]] [] [(.sl (.i .i64)), (.sl (.i .i64)), (.sl (.pr (.i .i64) (.pr (.i .i64) (.sl (.pr (.i .i64) (.i .i64))))))] r_ref30_Great
noncomputable def c_ref30_Great (N : Nat) : Ctr := ⟨9, [.ag [.h (.sl (.i .i64)), .h (.sl (.i .i64)), .h (.sl (.pr (.i .i64) (.pr (.i .i64) (.sl (.pr (.i .i64) (.i .i64))))))]], [], [(.sl (.i .i64)), (.sl (.i .i64)), (.sl (.pr (.i .i64) (.pr (.i .i64) (.sl (.pr (.i .i64) (.i .i64))))))], Tup r_ref30_Great.c, m_ref30_Great N, fun y _ k => k (resG T (mkPS 40 r_ref30_Great y) Try.f9.results.toList) (keepH' [] (mkPS 40 r_ref30_Great y).h), false, true⟩
theorem l_ref30_Great_1_z (N : Nat) (v : Int × Int × (List Int) × (List Int) × (List (Int × (Int × (List (Int × Int)))))) : l_ref30_Great_1 N 0 v = none := by kernel_rfl
theorem l_ref30_Great_1_s (N m : Nat) (n : Int) (i : Int) (s : (List Int)) (s2 : (List Int)) (s3 : (List (Int × (Int × (List (Int × Int)))))) : l_ref30_Great_1 N (m + 1) (n, i, s, s2, s3) = cond (decide (i < (((List.length s3) : Nat) : Int)))
   (cond (decide (n ≤ (200 : Int)))
     (obind (nthI s3 i) fun z1 =>
      (l_ref30_Great_1 N m ((IntKind.wrap .i64 (n + (((List.length z1.2.2) : Nat) : Int))), ((IntKind.wrap .i64 (i + (1 : Int))), (s, (s2, s3))))))
     (some n))
   (some n) := by kernel_rfl
theorem m_ref30_Great_eq (N : Nat) (s : (List Int)) (s2 : (List Int)) (s3 : (List (Int × (Int × (List (Int × Int)))))) : m_ref30_Great (N + 1) (s, s2, s3) = obind (l_ref30_Great_1 N N ((IntKind.wrap .i64 ((IntKind.wrap .i64 ((((List.length s) : Nat) : Int) + (((List.length s2) : Nat) : Int))) + (((List.length s3) : Nat) : Int))), ((0 : Int), (s, (s2, s3))))) fun z1 =>
  some (decide ((200 : Int) < z1)) := by kernel_rfl
theorem c_ref30_Great_ok (N : Nat) : (c_ref30_Great N).ok Try.prog := exF_ok (T := T) (CT := ct_ref30_Great) (N := N) (fun M => ⟨tOk, ctAll_nil, mixed, bwAll⟩) Try.func9 (by kernel_rfl) (by kernel_rfl) p_ref30_Great [.ag [.h (.sl (.i .i64)), .h (.sl (.i .i64)), .h (.sl (.pr (.i .i64) (.pr (.i .i64) (.sl (.pr (.i .i64) (.i .i64))))))]] [] [(.sl (.i .i64)), (.sl (.i .i64)), (.sl (.pr (.i .i64) (.pr (.i .i64) (.sl (.pr (.i .i64) (.i .i64))))))] r_ref30_Great false true [] (by kernel_rfl) (fun y => by kernel_rfl) (fun _ => ⟨rfl, rfl⟩) (fun y => by kernel_rfl) (m_ref30_Great N) (fun x => by kernel_rfl)
noncomputable def ct_ref30_Copy (N : Nat) : List Ctr := []
def i_ref30_Copy_1 : PS := ⟨[(1, .k (.pt 900 0)), (2, .k (.pt 901 0)), (3, .k (.pt 902 0)), (4, .h (.i .i64))], [(900, .box 27 [.h (.sl (.i .i64)), .h (.sl (.i .i64)), .h (.sl (.pr (.i .i64) (.pr (.i .i64) (.sl (.pr (.i .i64) (.i .i64))))))]), (901, .box 27 [.k .nil, .k .nil, .k .nil]), (902, .box 27 [.k (.ow 903), .k (.ow 904), .k (.ow 905)]), (903, .arr 3 (.i .i64) true), (904, .arr 3 (.i .i64) true), (905, .arr 75 (.pr (.i .i64) (.pr (.i .i64) (.sl (.pr (.i .i64) (.i .i64))))) true)], [(.i .i64), (.sl (.i .i64)), (.sl (.i .i64)), (.sl (.pr (.i .i64) (.pr (.i .i64) (.sl (.pr (.i .i64) (.i .i64)))))), (.sl (.i .i64)), (.sl (.i .i64)), (.sl (.pr (.i .i64) (.pr (.i .i64) (.sl (.pr (.i .i64) (.i .i64))))))]⟩
def o_ref30_Copy_1 : List (Exit × PS) := [((.exit 0), ⟨[(2, .k (.pt 900 0)), (3, .k (.pt 901 0))], [(900, .box 27 [.k .nil, .k .nil, .k .nil]), (901, .box 27 [.k (.ow 902), .k (.ow 903), .k (.ow 904)]), (902, .arr 3 (.i .i64) true), (903, .arr 3 (.i .i64) true), (904, .arr 75 (.pr (.i .i64) (.pr (.i .i64) (.sl (.pr (.i .i64) (.i .i64))))) true)], [(.sl (.i .i64)), (.sl (.i .i64)), (.sl (.pr (.i .i64) (.pr (.i .i64) (.sl (.pr (.i .i64) (.i .i64))))))]⟩)]
def p_ref30_Copy_1 : Pl := .z
noncomputable def l_ref30_Copy_1 (N : Nat) : Nat → Int × (List Int) × (List Int) × (List (Int × (Int × (List (Int × Int))))) × (List Int) × (List Int) × (List (Int × (Int × (List (Int × Int))))) → Option ((List Int) × (List Int) × (List (Int × (Int × (List (Int × Int)))))) := loopF (exC T (ct_ref30_Copy N) N (codeAt [1, 1, 0, 1, 0, 0] (bodyOf Try.f10))) 45 i_ref30_Copy_1 o_ref30_Copy_1 p_ref30_Copy_1
def p_ref30_Copy : Pl := (.n .z (.n .z (.n (.n .z (.n (.loop i_ref30_Copy_1 o_ref30_Copy_1 p_ref30_Copy_1) .z)) .z)))
def r_ref30_Copy : PS := ⟨[(2, .k (.pt 900 0))], [(900, .box 27 [.h (.sl (.i .i64)), .h (.sl (.i .i64)), .h (.sl (.pr (.i .i64) (.pr (.i .i64) (.sl (.pr (.i .i64) (.i .i64))))))])], [(.sl (.i .i64)), (.sl (.i .i64)), (.sl (.pr (.i .i64) (.pr (.i .i64) (.sl (.pr (.i .i64) (.i .i64))))))]⟩
noncomputable def m_ref30_Copy (N : Nat) : (List Int) × (List Int) × (List (Int × (Int × (List (Int × Int))))) → Option ((List Int) × (List Int) × (List (Int × (Int × (List (Int × Int)))))) := exF T ct_ref30_Copy N (bodyOf Try.f10) 45 p_ref30_Copy [.ag [.h (.sl (.i .i64)), .h (.sl (.i .i64)), .h (.sl (.pr (.i .i64) (.pr (.i .i64) (.sl (.pr (.i .i64) (.i .i64))))))]] [] [(.sl (.i .i64)), (.sl (.i .i64)), (.sl (.pr (.i .i64) (.pr (.i .i64) (.sl (.pr (.i .i64) (.i .i64))))))] r_ref30_Copy
noncomputable def c_ref30_Copy (N : Nat) : Ctr := ⟨10, [.ag [.h (.sl (.i .i64)), .h (.sl (.i .i64)), .h (.sl (.pr (.i .i64) (.pr (.i .i64) (.sl (.pr (.i .i64) (.i .i64))))))]], [], [(.sl (.i .i64)), (.sl (.i .i64)), (.sl (.pr (.i .i64) (.pr (.i .i64) (.sl (.pr (.i .i64) (.i .i64))))))], Tup r_ref30_Copy.c, m_ref30_Copy N, fun y _ k => k (resG T (mkPS 45 r_ref30_Copy y) Try.f10.results.toList) (keepH' [] (mkPS 45 r_ref30_Copy y).h), false, false⟩
theorem l_ref30_Copy_1_s (N m : Nat) (i : Int) (s : (List Int)) (s2 : (List Int)) (s3 : (List (Int × (Int × (List (Int × Int)))))) (v903 : (List Int)) (v904 : (List Int)) (v905 : (List (Int × (Int × (List (Int × Int)))))) : l_ref30_Copy_1 N (m + 1) (i, s, s2, s3, v903, v904, v905) = cond (decide (i < (((List.length s3) : Nat) : Int)))
   (obind (nthI s3 i) fun z1 =>
    obind (appI (16 : Nat) [] z1.2.2) fun z2 =>
    obind (appI (40 : Nat) v905 [(z1.1, (z1.2.1, z2))]) fun z3 =>
    (l_ref30_Copy_1 N m ((IntKind.wrap .i64 (i + (1 : Int))), (s, (s2, (s3, (v903, (v904, z3))))))))
   (some (v903, (v904, v905))) := by kernel_rfl
theorem m_ref30_Copy_eq (N : Nat) (s : (List Int)) (s2 : (List Int)) (s3 : (List (Int × (Int × (List (Int × Int)))))) : m_ref30_Copy (N + 1) (s, s2, s3) = obind (appI (8 : Nat) [] s) fun z1 =>
  obind (appI (8 : Nat) [] s2) fun z2 =>
  obind (l_ref30_Copy_1 N N ((0 : Int), (s, (s2, (s3, (z1, (z2, []))))))) fun z3 =>
  some (z3.1, (z3.2.1, z3.2.2)) := by kernel_rfl
theorem c_ref30_Copy_ok (N : Nat) : (c_ref30_Copy N).ok Try.prog := exF_ok (T := T) (CT := ct_ref30_Copy) (N := N) (fun M => ⟨tOk, ctAll_nil, mixed, bwAll⟩) Try.func10 (by kernel_rfl) (by kernel_rfl) p_ref30_Copy [.ag [.h (.sl (.i .i64)), .h (.sl (.i .i64)), .h (.sl (.pr (.i .i64) (.pr (.i .i64) (.sl (.pr (.i .i64) (.i .i64))))))]] [] [(.sl (.i .i64)), (.sl (.i .i64)), (.sl (.pr (.i .i64) (.pr (.i .i64) (.sl (.pr (.i .i64) (.i .i64))))))] r_ref30_Copy false false [] (by kernel_rfl) (fun y => by kernel_rfl) (fun _ => ⟨rfl, rfl⟩) (fun y => by kernel_rfl) (m_ref30_Copy N) (fun x => by kernel_rfl)
noncomputable def ct_ref02_Right (N : Nat) : List Ctr := []
def i_ref02_Right_2 : PS := ⟨[(1, .k (.pt 900 0)), (3, .h (.i .i64)), (5, .k (.ow 901)), (6, .h (.i .i64))], [(900, .box 24 [.h (.sl (.i .i64)), .h (.sl (.i .i64))]), (901, .arr 4 .b true)], [(.i .i64), (.i .i64), (.sl (.i .i64)), (.sl (.i .i64)), (.sl .b)]⟩
def o_ref02_Right_2 : List (Exit × PS) := [((.exit 2), ⟨[], [], []⟩), (.ret, ⟨[(2, .h .b)], [], [.b]⟩)]
def p_ref02_Right_2 : Pl := .z
noncomputable def l_ref02_Right_2 (N : Nat) : Nat → Int × Int × (List Int) × (List Int) × (List Bool) → Option ((Unit) ⊕ (Bool)) := loopF (exC T (ct_ref02_Right N) N (codeAt [1, 1, 1, 1, 1, 0, 1, 0, 0] (bodyOf Try.f50))) 73 i_ref02_Right_2 o_ref02_Right_2 p_ref02_Right_2
def i_ref02_Right_1 : PS := ⟨[(1, .k (.pt 900 0)), (3, .h (.i .i64)), (4, .h (.i .i64))], [(900, .box 24 [.h (.sl (.i .i64)), .h (.sl (.i .i64))])], [(.i .i64), (.i .i64), (.sl (.i .i64)), (.sl (.i .i64))]⟩
def o_ref02_Right_1 : List (Exit × PS) := [((.exit 0), ⟨[(1, .k (.pt 900 0)), (3, .h (.i .i64))], [(900, .box 24 [.h (.sl (.i .i64)), .h (.sl (.i .i64))])], [(.i .i64), (.sl (.i .i64)), (.sl (.i .i64))]⟩), (.ret, ⟨[(2, .h .b)], [], [.b]⟩)]
def p_ref02_Right_1 : Pl := .z
noncomputable def l_ref02_Right_1 (N : Nat) : Nat → Int × Int × (List Int) × (List Int) → Option ((Int × (List Int) × (List Int)) ⊕ (Bool)) := loopF (exC T (ct_ref02_Right N) N (codeAt [1, 1, 1, 0, 1, 0, 0] (bodyOf Try.f50))) 73 i_ref02_Right_1 o_ref02_Right_1 p_ref02_Right_1
def p_ref02_Right : Pl := (.n .z (.n .z (.n .z (.n (.n .z (.n (.loop i_ref02_Right_1 o_ref02_Right_1 p_ref02_Right_1) .z)) (.n .z (.n (.n .z (.n (.loop i_ref02_Right_2 o_ref02_Right_2 p_ref02_Right_2) .z)) .z))))))
def r_ref02_Right : PS := ⟨[(2, .h .b)], [], [.b]⟩
noncomputable def m_ref02_Right (N : Nat) : (List Int) × (List Int) → Option (Bool) := exF T ct_ref02_Right N (bodyOf Try.f50) 73 p_ref02_Right [.ag [.h (.sl (.i .i64)), .h (.sl (.i .i64))]] [] [(.sl (.i .i64)), (.sl (.i .i64))] r_ref02_Right
noncomputable def c_ref02_Right (N : Nat) : Ctr := ⟨50, [.ag [.h (.sl (.i .i64)), .h (.sl (.i .i64))]], [], [(.sl (.i .i64)), (.sl (.i .i64))], Tup r_ref02_Right.c, m_ref02_Right N, fun y _ k => k (resG T (mkPS 73 r_ref02_Right y) Try.f50.results.toList) (keepH' [] (mkPS 73 r_ref02_Right y).h), false, true⟩
theorem l_ref02_Right_2_s (N m : Nat) (n : Int) (i : Int) (p : (List Int)) (p2 : (List Int)) (met : (List Bool)) : l_ref02_Right_2 N (m + 1) (n, i, p, p2, met) = cond (decide (i < (((List.length p2) : Nat) : Int)))
   (obind (nthI p2 i) fun z1 =>
    cond (decide (z1 < (0 : Int)))
     (some (.inr false))
     (cond (decide (n ≤ z1))
       (some (.inr false))
       (obind (nthI met z1) fun z2 =>
        obind (nthI met z1) fun z3 =>
        cond z3
         (some (.inr false))
         (obind (nthI met z1) fun z4 =>
          obind (nthI met z1) fun z5 =>
          (l_ref02_Right_2 N m (n, ((IntKind.wrap .i64 (i + (1 : Int))), (p, (p2, (List.set met (Int.toNat z1) true))))))))))
   (some (.inl ())) := by kernel_rfl
theorem l_ref02_Right_1_s (N m : Nat) (n : Int) (i : Int) (p : (List Int)) (p2 : (List Int)) : l_ref02_Right_1 N (m + 1) (n, i, p, p2) = cond (decide (i < n))
   (obind (nthI p i) fun z1 =>
    cond (decide (z1 < (0 : Int)))
     (some (.inr false))
     (obind (nthI p i) fun z2 =>
      cond (decide ((1073741824 : Int) < z2))
       (some (.inr false))
       ((l_ref02_Right_1 N m (n, ((IntKind.wrap .i64 (i + (1 : Int))), (p, p2)))))))
   (some (.inl (n, (p, p2)))) := by kernel_rfl
theorem m_ref02_Right_eq (N : Nat) (p : (List Int)) (p2 : (List Int)) : m_ref02_Right (N + 1) (p, p2) = cond (decide ((((List.length p) : Nat) : Int) < (1 : Int)))
   (some false)
   (cond (decide ((1000 : Int) < (((List.length p) : Nat) : Int)))
     (some false)
     (cond (decide ((((List.length p) : Nat) : Int) < (((List.length p2) : Nat) : Int)))
       (some false)
       (obind (l_ref02_Right_1 N N ((((List.length p) : Nat) : Int), ((0 : Int), (p, p2)))) fun z1 =>
        (match z1 with
        | .inl zy2 => obind (makI zy2.1 (1 : Nat)) fun z3 =>
          obind (l_ref02_Right_2 N N (zy2.1, ((0 : Int), (zy2.2.1, (zy2.2.2, (List.replicate z3 false)))))) fun z4 =>
          (match z4 with
          | .inl zy5 => some true
          | .inr zy6 => some zy6)
        | .inr zy7 => some zy7)))) := by kernel_rfl
theorem c_ref02_Right_ok (N : Nat) : (c_ref02_Right N).ok Try.prog := exF_ok (T := T) (CT := ct_ref02_Right) (N := N) (fun M => ⟨tOk, ctAll_nil, mixed, bwAll⟩) Try.func50 (by kernel_rfl) (by kernel_rfl) p_ref02_Right [.ag [.h (.sl (.i .i64)), .h (.sl (.i .i64))]] [] [(.sl (.i .i64)), (.sl (.i .i64))] r_ref02_Right false true [] (by kernel_rfl) (fun y => by kernel_rfl) (fun _ => ⟨rfl, rfl⟩) (fun y => by kernel_rfl) (m_ref02_Right N) (fun x => by kernel_rfl)
noncomputable def ct_ref30_free (N : Nat) : List Ctr := []
def i_ref30_free_1 : PS := ⟨[(1, .h (.i .i64)), (2, .k (.pt 900 0)), (5, .h (.i .i64))], [(900, .box 24 [.h (.sl (.i .i64)), .h (.sl (.i .i64))])], [(.i .i64), (.i .i64), (.sl (.i .i64)), (.sl (.i .i64))]⟩
def o_ref30_free_1 : List (Exit × PS) := [((.exit 0), ⟨[], [], []⟩), (.ret, ⟨[(4, .h .b)], [], [.b]⟩)]
def p_ref30_free_1 : Pl := .z
noncomputable def l_ref30_free_1 (N : Nat) : Nat → Int × Int × (List Int) × (List Int) → Option ((Unit) ⊕ (Bool)) := loopF (exC T (ct_ref30_free N) N (codeAt [1, 0, 1, 0, 0] (bodyOf Try.f51))) 20 i_ref30_free_1 o_ref30_free_1 p_ref30_free_1
def p_ref30_free : Pl := (.n .z (.n (.n .z (.n (.loop i_ref30_free_1 o_ref30_free_1 p_ref30_free_1) .z)) .z))
def r_ref30_free : PS := ⟨[(4, .h .b)], [], [.b]⟩
noncomputable def m_ref30_free (N : Nat) : (List Int) × (List Int) × Int → Option (Bool) := exF T ct_ref30_free N (bodyOf Try.f51) 20 p_ref30_free [.ag [.h (.sl (.i .i64)), .h (.sl (.i .i64))], .h (.i .i64)] [] [(.sl (.i .i64)), (.sl (.i .i64)), (.i .i64)] r_ref30_free
noncomputable def c_ref30_free (N : Nat) : Ctr := ⟨51, [.ag [.h (.sl (.i .i64)), .h (.sl (.i .i64))], .h (.i .i64)], [], [(.sl (.i .i64)), (.sl (.i .i64)), (.i .i64)], Tup r_ref30_free.c, m_ref30_free N, fun y _ k => k (resG T (mkPS 20 r_ref30_free y) Try.f51.results.toList) (keepH' [] (mkPS 20 r_ref30_free y).h), false, true⟩
theorem l_ref30_free_1_s (N m : Nat) (cell : Int) (i : Int) (p : (List Int)) (p2 : (List Int)) : l_ref30_free_1 N (m + 1) (cell, i, p, p2) = cond (decide (i < (((List.length p2) : Nat) : Int)))
   (obind (nthI p2 i) fun z1 =>
    cond (decide (z1 = cell))
     (some (.inr true))
     ((l_ref30_free_1 N m (cell, ((IntKind.wrap .i64 (i + (1 : Int))), (p, p2))))))
   (some (.inl ())) := by kernel_rfl
theorem m_ref30_free_eq (N : Nat) (p : (List Int)) (p2 : (List Int)) (cell : Int) : m_ref30_free (N + 1) (p, p2, cell) = obind (l_ref30_free_1 N N (cell, ((0 : Int), (p, p2)))) fun z1 =>
  (match z1 with
  | .inl zy2 => some false
  | .inr zy3 => some zy3) := by kernel_rfl
theorem c_ref30_free_ok (N : Nat) : (c_ref30_free N).ok Try.prog := exF_ok (T := T) (CT := ct_ref30_free) (N := N) (fun M => ⟨tOk, ctAll_nil, mixed, bwAll⟩) Try.func51 (by kernel_rfl) (by kernel_rfl) p_ref30_free [.ag [.h (.sl (.i .i64)), .h (.sl (.i .i64))], .h (.i .i64)] [] [(.sl (.i .i64)), (.sl (.i .i64)), (.i .i64)] r_ref30_free false true [] (by kernel_rfl) (fun y => by kernel_rfl) (fun _ => ⟨rfl, rfl⟩) (fun y => by kernel_rfl) (m_ref30_free N) (fun x => by kernel_rfl)
noncomputable def ct_ref02_Good (N : Nat) : List Ctr := [c_ref02_Right N]
def i_ref02_Good_1 : PS := ⟨[(2, .k (.pt 900 0)), (3, .k (.pt 901 0)), (5, .h (.i .i64))], [(900, .box 24 [.h (.sl (.i .i64)), .h (.sl (.i .i64))]), (901, .box 29 [.h (.i .i64), .h (.i .i64)])], [(.i .i64), (.sl (.i .i64)), (.sl (.i .i64)), (.i .i64), (.i .i64)]⟩
def o_ref02_Good_1 : List (Exit × PS) := [((.exit 0), ⟨[], [], []⟩), (.ret, ⟨[(4, .h .b)], [], [.b]⟩)]
def p_ref02_Good_1 : Pl := .z
noncomputable def l_ref02_Good_1 (N : Nat) : Nat → Int × (List Int) × (List Int) × Int × Int → Option ((Unit) ⊕ (Bool)) := loopF (exC T (ct_ref02_Good N) N (codeAt [1, 1, 0, 1, 0, 0] (bodyOf Try.f37))) 48 i_ref02_Good_1 o_ref02_Good_1 p_ref02_Good_1
def p_ref02_Good : Pl := (.n .z (.n .z (.n (.n .z (.n (.loop i_ref02_Good_1 o_ref02_Good_1 p_ref02_Good_1) .z)) .z)))
def r_ref02_Good : PS := ⟨[(4, .h .b)], [], [.b]⟩
noncomputable def m_ref02_Good (N : Nat) : (List Int) × (List Int) × Int × Int → Option (Bool) := exF T ct_ref02_Good N (bodyOf Try.f37) 48 p_ref02_Good [.ag [.h (.sl (.i .i64)), .h (.sl (.i .i64))], .ag [.h (.i .i64), .h (.i .i64)]] [] [(.sl (.i .i64)), (.sl (.i .i64)), (.i .i64), (.i .i64)] r_ref02_Good
noncomputable def c_ref02_Good (N : Nat) : Ctr := ⟨37, [.ag [.h (.sl (.i .i64)), .h (.sl (.i .i64))], .ag [.h (.i .i64), .h (.i .i64)]], [], [(.sl (.i .i64)), (.sl (.i .i64)), (.i .i64), (.i .i64)], Tup r_ref02_Good.c, m_ref02_Good N, fun y _ k => k (resG T (mkPS 48 r_ref02_Good y) Try.f37.results.toList) (keepH' [] (mkPS 48 r_ref02_Good y).h), false, true⟩
theorem l_ref02_Good_1_s (N m : Nat) (k : Int) (p : (List Int)) (p2 : (List Int)) (h : Int) (h2 : Int) : l_ref02_Good_1 N (m + 1) (k, p, p2, h, h2) = cond (decide (k < (((List.length p2) : Nat) : Int)))
   (obind (nthI p2 k) fun z1 =>
    cond (decide (z1 = h))
     (some (.inr false))
     ((l_ref02_Good_1 N m ((IntKind.wrap .i64 (k + (1 : Int))), (p, (p2, (h, h2)))))))
   (some (.inl ())) := by kernel_rfl
theorem m_ref02_Good_eq (N : Nat) (p : (List Int)) (p2 : (List Int)) (h : Int) (h2 : Int) : m_ref02_Good (N + 1) (p, p2, h, h2) = obind (m_ref02_Right N (p, p2)) fun z1 =>
  cond (!z1)
   (some false)
   (cond (decide (h < (0 : Int)))
     (some false)
     (cond (decide ((((List.length p) : Nat) : Int) ≤ h))
       (some false)
       (obind (nthI p h) fun z2 =>
        cond (!(decide (z2 = h2)))
         (some false)
         (obind (l_ref02_Good_1 N N ((0 : Int), (p, (p2, (h, h2))))) fun z3 =>
          (match z3 with
          | .inl zy4 => some true
          | .inr zy5 => some zy5))))) := by kernel_rfl
theorem c_ref02_Good_ok (N : Nat) : (c_ref02_Good N).ok Try.prog := exF_ok (T := T) (CT := ct_ref02_Good) (N := N) (fun M => ⟨tOk, (ctAll_cons (c_ref02_Right_ok M) ctAll_nil), mixed, bwAll⟩) Try.func37 (by kernel_rfl) (by kernel_rfl) p_ref02_Good [.ag [.h (.sl (.i .i64)), .h (.sl (.i .i64))], .ag [.h (.i .i64), .h (.i .i64)]] [] [(.sl (.i .i64)), (.sl (.i .i64)), (.i .i64), (.i .i64)] r_ref02_Good false true [] (by kernel_rfl) (fun y => by kernel_rfl) (fun _ => ⟨rfl, rfl⟩) (fun y => by kernel_rfl) (m_ref02_Good N) (fun x => by kernel_rfl)
noncomputable def ct_ref30_Right (N : Nat) : List Ctr := [c_ref02_Right N, c_ref30_free N, c_ref02_Good N]
def i_ref30_Right_2 : PS := ⟨[(1, .k (.pt 900 0)), (3, .h (.i .i64)), (4, .k (.pt 901 0)), (5, .h (.i .i64))], [(900, .box 27 [.h (.sl (.i .i64)), .h (.sl (.i .i64)), .h (.sl (.pr (.i .i64) (.pr (.i .i64) (.sl (.pr (.i .i64) (.i .i64))))))]), (901, .box 75 [.h (.i .i64), .h (.i .i64), .h (.sl (.pr (.i .i64) (.i .i64)))])], [(.i .i64), (.i .i64), (.sl (.i .i64)), (.sl (.i .i64)), (.sl (.pr (.i .i64) (.pr (.i .i64) (.sl (.pr (.i .i64) (.i .i64)))))), (.i .i64), (.i .i64), (.sl (.pr (.i .i64) (.i .i64)))]⟩
def o_ref30_Right_2 : List (Exit × PS) := [((.exit 2), ⟨[(1, .k (.pt 900 0)), (3, .h (.i .i64))], [(900, .box 27 [.h (.sl (.i .i64)), .h (.sl (.i .i64)), .h (.sl (.pr (.i .i64) (.pr (.i .i64) (.sl (.pr (.i .i64) (.i .i64))))))])], [(.i .i64), (.sl (.i .i64)), (.sl (.i .i64)), (.sl (.pr (.i .i64) (.pr (.i .i64) (.sl (.pr (.i .i64) (.i .i64))))))]⟩), (.ret, ⟨[(2, .h .b)], [], [.b]⟩)]
def p_ref30_Right_2 : Pl := .z
noncomputable def l_ref30_Right_2 (N : Nat) : Nat → Int × Int × (List Int) × (List Int) × (List (Int × (Int × (List (Int × Int))))) × Int × Int × (List (Int × Int)) → Option ((Int × (List Int) × (List Int) × (List (Int × (Int × (List (Int × Int)))))) ⊕ (Bool)) := loopF (exC T (ct_ref30_Right N) N (codeAt [1, 1, 0, 1, 0, 0, 1, 0, 0, 1, 1, 1, 1, 0, 0] (bodyOf Try.f19))) 87 i_ref30_Right_2 o_ref30_Right_2 p_ref30_Right_2
def i_ref30_Right_1 : PS := ⟨[(1, .k (.pt 900 0)), (3, .h (.i .i64))], [(900, .box 27 [.h (.sl (.i .i64)), .h (.sl (.i .i64)), .h (.sl (.pr (.i .i64) (.pr (.i .i64) (.sl (.pr (.i .i64) (.i .i64))))))])], [(.i .i64), (.sl (.i .i64)), (.sl (.i .i64)), (.sl (.pr (.i .i64) (.pr (.i .i64) (.sl (.pr (.i .i64) (.i .i64))))))]⟩
def o_ref30_Right_1 : List (Exit × PS) := [((.exit 0), ⟨[], [], []⟩), (.ret, ⟨[(2, .h .b)], [], [.b]⟩)]
def p_ref30_Right_1 : Pl := (.n .z (.n (.n (.n .z (.n .z (.n .z (.n .z (.n (.loop i_ref30_Right_2 o_ref30_Right_2 p_ref30_Right_2) .z))))) .z) .z))
noncomputable def l_ref30_Right_1 (N : Nat) : Nat → Int × (List Int) × (List Int) × (List (Int × (Int × (List (Int × Int))))) → Option ((Unit) ⊕ (Bool)) := loopF (exC T (ct_ref30_Right N) N (codeAt [1, 1, 0, 1, 0, 0] (bodyOf Try.f19))) 87 i_ref30_Right_1 o_ref30_Right_1 p_ref30_Right_1
def p_ref30_Right : Pl := (.n .z (.n .z (.n (.n .z (.n (.loop i_ref30_Right_1 o_ref30_Right_1 p_ref30_Right_1) .z)) .z)))
def r_ref30_Right : PS := ⟨[(2, .h .b)], [], [.b]⟩
noncomputable def m_ref30_Right (N : Nat) : (List Int) × (List Int) × (List (Int × (Int × (List (Int × Int))))) → Option (Bool) := exF T ct_ref30_Right N (bodyOf Try.f19) 87 p_ref30_Right [.ag [.h (.sl (.i .i64)), .h (.sl (.i .i64)), .h (.sl (.pr (.i .i64) (.pr (.i .i64) (.sl (.pr (.i .i64) (.i .i64))))))]] [] [(.sl (.i .i64)), (.sl (.i .i64)), (.sl (.pr (.i .i64) (.pr (.i .i64) (.sl (.pr (.i .i64) (.i .i64))))))] r_ref30_Right
noncomputable def c_ref30_Right (N : Nat) : Ctr := ⟨19, [.ag [.h (.sl (.i .i64)), .h (.sl (.i .i64)), .h (.sl (.pr (.i .i64) (.pr (.i .i64) (.sl (.pr (.i .i64) (.i .i64))))))]], [], [(.sl (.i .i64)), (.sl (.i .i64)), (.sl (.pr (.i .i64) (.pr (.i .i64) (.sl (.pr (.i .i64) (.i .i64))))))], Tup r_ref30_Right.c, m_ref30_Right N, fun y _ k => k (resG T (mkPS 87 r_ref30_Right y) Try.f19.results.toList) (keepH' [] (mkPS 87 r_ref30_Right y).h), false, true⟩
theorem l_ref30_Right_2_s (N m : Nat) (c : Int) (k : Int) (s : (List Int)) (s2 : (List Int)) (s3 : (List (Int × (Int × (List (Int × Int)))))) (x : Int) (x2 : Int) (x3 : (List (Int × Int))) : l_ref30_Right_2 N (m + 1) (c, k, s, s2, s3, x, x2, x3) = cond (decide (k < (((List.length x3) : Nat) : Int)))
   (obind (nthI x3 k) fun z1 =>
    obind (m_ref02_Good N (s, (s2, (z1.1, z1.2)))) fun z2 =>
    cond (!z2)
     (some (.inr false))
     ((l_ref30_Right_2 N m (c, ((IntKind.wrap .i64 (k + (1 : Int))), (s, (s2, (s3, (x, (x2, x3))))))))))
   (some (.inl (c, (s, (s2, s3))))) := by kernel_rfl
theorem l_ref30_Right_1_s (N m : Nat) (c : Int) (s : (List Int)) (s2 : (List Int)) (s3 : (List (Int × (Int × (List (Int × Int)))))) : l_ref30_Right_1 N (m + 1) (c, s, s2, s3) = cond (decide (c < (((List.length s3) : Nat) : Int)))
   (obind (nthI s3 c) fun z1 =>
    obind (m_ref30_free N (s, (s2, c))) fun z2 =>
    cond z2
     (cond (!(decide (z1.1 = (0 : Int))))
       (some (.inr false))
       (cond (!(decide (z1.2.1 = (0 : Int))))
         (some (.inr false))
         (cond (!(decide ((((List.length z1.2.2) : Nat) : Int) = (0 : Int))))
           (some (.inr false))
           ((l_ref30_Right_1 N m ((IntKind.wrap .i64 (c + (1 : Int))), (s, (s2, s3))))))))
     (cond (decide (z1.1 < (0 : Int)))
       (some (.inr false))
       (cond (decide (z1.2.1 < (1 : Int)))
         (some (.inr false))
         (cond (decide ((8 : Int) < z1.2.1))
           (some (.inr false))
           (cond (!(decide ((((List.length z1.2.2) : Nat) : Int) = z1.2.1)))
             (some (.inr false))
             (obind (l_ref30_Right_2 N N (c, ((0 : Int), (s, (s2, (s3, (z1.1, (z1.2.1, z1.2.2)))))))) fun z3 =>
              (match z3 with
              | .inl zy4 => (l_ref30_Right_1 N m ((IntKind.wrap .i64 (zy4.1 + (1 : Int))), (zy4.2.1, (zy4.2.2.1, zy4.2.2.2))))
              | .inr zy5 => some (.inr zy5))))))))
   (some (.inl ())) := by kernel_rfl
theorem m_ref30_Right_eq (N : Nat) (s : (List Int)) (s2 : (List Int)) (s3 : (List (Int × (Int × (List (Int × Int)))))) : m_ref30_Right (N + 1) (s, s2, s3) = obind (m_ref02_Right N (s, s2)) fun z1 =>
  cond (!z1)
   (some false)
   (cond (!(decide ((((List.length s3) : Nat) : Int) = (((List.length s) : Nat) : Int))))
     (some false)
     (obind (l_ref30_Right_1 N N ((0 : Int), (s, (s2, s3)))) fun z2 =>
      (match z2 with
      | .inl zy3 => some true
      | .inr zy4 => some zy4))) := by kernel_rfl
theorem c_ref30_Right_ok (N : Nat) : (c_ref30_Right N).ok Try.prog := exF_ok (T := T) (CT := ct_ref30_Right) (N := N) (fun M => ⟨tOk, (ctAll_cons (c_ref02_Right_ok M) (ctAll_cons (c_ref30_free_ok M) (ctAll_cons (c_ref02_Good_ok M) ctAll_nil))), mixed, bwAll⟩) Try.func19 (by kernel_rfl) (by kernel_rfl) p_ref30_Right [.ag [.h (.sl (.i .i64)), .h (.sl (.i .i64)), .h (.sl (.pr (.i .i64) (.pr (.i .i64) (.sl (.pr (.i .i64) (.i .i64))))))]] [] [(.sl (.i .i64)), (.sl (.i .i64)), (.sl (.pr (.i .i64) (.pr (.i .i64) (.sl (.pr (.i .i64) (.i .i64))))))] r_ref30_Right false true [] (by kernel_rfl) (fun y => by kernel_rfl) (fun _ => ⟨rfl, rfl⟩) (fun y => by kernel_rfl) (m_ref30_Right N) (fun x => by kernel_rfl)
noncomputable def ct_ref30_Place (N : Nat) : List Ctr := []
def i_ref30_Place_1 : PS := ⟨[(0, .h (.sl (.pr (.i .i64) (.i .i64)))), (3, .k (.pt 900 0)), (5, .h (.i .i64))], [(900, .box 29 [.h (.i .i64), .h (.i .i64)])], [(.sl (.pr (.i .i64) (.i .i64))), (.i .i64), (.i .i64), (.i .i64)]⟩
def o_ref30_Place_1 : List (Exit × PS) := [((.exit 0), ⟨[], [], []⟩), (.ret, ⟨[(4, .h (.i .i64))], [], [(.i .i64)]⟩)]
def p_ref30_Place_1 : Pl := .z
noncomputable def l_ref30_Place_1 (N : Nat) : Nat → (List (Int × Int)) × Int × Int × Int → Option ((Unit) ⊕ (Int)) := loopF (exC T (ct_ref30_Place N) N (codeAt [1, 0, 1, 0, 0] (bodyOf Try.f38))) 19 i_ref30_Place_1 o_ref30_Place_1 p_ref30_Place_1
def p_ref30_Place : Pl := (.n .z (.n (.n .z (.n (.loop i_ref30_Place_1 o_ref30_Place_1 p_ref30_Place_1) .z)) .z))
def r_ref30_Place : PS := ⟨[(4, .h (.i .i64))], [], [(.i .i64)]⟩
noncomputable def m_ref30_Place (N : Nat) : (List (Int × Int)) × Int × Int → Option (Int) := exF T ct_ref30_Place N (bodyOf Try.f38) 19 p_ref30_Place [.h (.sl (.pr (.i .i64) (.i .i64))), .ag [.h (.i .i64), .h (.i .i64)]] [] [(.sl (.pr (.i .i64) (.i .i64))), (.i .i64), (.i .i64)] r_ref30_Place
noncomputable def c_ref30_Place (N : Nat) : Ctr := ⟨38, [.h (.sl (.pr (.i .i64) (.i .i64))), .ag [.h (.i .i64), .h (.i .i64)]], [], [(.sl (.pr (.i .i64) (.i .i64))), (.i .i64), (.i .i64)], Tup r_ref30_Place.c, m_ref30_Place N, fun y _ k => k (resG T (mkPS 19 r_ref30_Place y) Try.f38.results.toList) (keepH' [] (mkPS 19 r_ref30_Place y).h), false, true⟩
theorem l_ref30_Place_1_s (N m : Nat) (l : (List (Int × Int))) (i : Int) (h : Int) (h2 : Int) : l_ref30_Place_1 N (m + 1) (l, i, h, h2) = cond (decide (i < (((List.length l) : Nat) : Int)))
   (obind (nthI l i) fun z1 =>
    cond ((decide (z1.1 = h)) && (decide (z1.2 = h2)))
     (some (.inr i))
     ((l_ref30_Place_1 N m (l, ((IntKind.wrap .i64 (i + (1 : Int))), (h, h2))))))
   (some (.inl ())) := by kernel_rfl
theorem m_ref30_Place_eq (N : Nat) (l : (List (Int × Int))) (h : Int) (h2 : Int) : m_ref30_Place (N + 1) (l, h, h2) = obind (l_ref30_Place_1 N N (l, ((0 : Int), (h, h2)))) fun z1 =>
  (match z1 with
  | .inl zy2 => some (-(1 : Int))
  | .inr zy3 => some zy3) := by kernel_rfl
theorem c_ref30_Place_ok (N : Nat) : (c_ref30_Place N).ok Try.prog := exF_ok (T := T) (CT := ct_ref30_Place) (N := N) (fun M => ⟨tOk, ctAll_nil, mixed, bwAll⟩) Try.func38 (by kernel_rfl) (by kernel_rfl) p_ref30_Place [.h (.sl (.pr (.i .i64) (.i .i64))), .ag [.h (.i .i64), .h (.i .i64)]] [] [(.sl (.pr (.i .i64) (.i .i64))), (.i .i64), (.i .i64)] r_ref30_Place false true [] (by kernel_rfl) (fun y => by kernel_rfl) (fun _ => ⟨rfl, rfl⟩) (fun y => by kernel_rfl) (m_ref30_Place N) (fun x => by kernel_rfl)
noncomputable def ct_ref14_Right (N : Nat) : List Ctr := [c_ref14_Build N, c_ref14_Same N]
def p_ref14_Right : Pl := .z
def r_ref14_Right : PS := ⟨[(2, .h .b)], [], [.b]⟩
noncomputable def m_ref14_Right (N : Nat) : (List Int) × (List Int) × (List (List Int)) → Option (Bool) := exF T ct_ref14_Right N (bodyOf Try.f27) 20 p_ref14_Right [.ag [.h (.sl (.i .i64)), .h (.sl (.i .i64)), .h (.sl (.sl (.i .i64)))]] [] [(.sl (.i .i64)), (.sl (.i .i64)), (.sl (.sl (.i .i64)))] r_ref14_Right
noncomputable def c_ref14_Right (N : Nat) : Ctr := ⟨27, [.ag [.h (.sl (.i .i64)), .h (.sl (.i .i64)), .h (.sl (.sl (.i .i64)))]], [], [(.sl (.i .i64)), (.sl (.i .i64)), (.sl (.sl (.i .i64)))], Tup r_ref14_Right.c, m_ref14_Right N, fun y _ k => k (resG T (mkPS 20 r_ref14_Right y) Try.f27.results.toList) (keepH' [] (mkPS 20 r_ref14_Right y).h), false, true⟩
theorem m_ref14_Right_eq (N : Nat) (t : (List Int)) (t2 : (List Int)) (t3 : (List (List Int))) : m_ref14_Right (N + 1) (t, t2, t3) = obind (m_ref14_Build N (t, t2)) fun z1 =>
  cond (decide (z1.1 = (0 : Int)))
   (obind (m_ref14_Same N (z1.2.1, (z1.2.2.1, (z1.2.2.2, (t, (t2, t3)))))) fun z2 =>
    some z2)
   (some false) := by kernel_rfl
theorem c_ref14_Right_ok (N : Nat) : (c_ref14_Right N).ok Try.prog := exF_ok (T := T) (CT := ct_ref14_Right) (N := N) (fun M => ⟨tOk, (ctAll_cons (c_ref14_Build_ok M) (ctAll_cons (c_ref14_Same_ok M) ctAll_nil)), mixed, bwAll⟩) Try.func27 (by kernel_rfl) (by kernel_rfl) p_ref14_Right [.ag [.h (.sl (.i .i64)), .h (.sl (.i .i64)), .h (.sl (.sl (.i .i64)))]] [] [(.sl (.i .i64)), (.sl (.i .i64)), (.sl (.sl (.i .i64)))] r_ref14_Right false true [] (by kernel_rfl) (fun y => by kernel_rfl) (fun _ => ⟨rfl, rfl⟩) (fun y => by kernel_rfl) (m_ref14_Right N) (fun x => by kernel_rfl)
noncomputable def ct_ref30_Read (N : Nat) : List Ctr := [c_ref30_Right N, c_ref02_Good N, c_ref30_Place N, c_ref14_Right N]
def i_ref30_Read_3 : PS := ⟨[(2, .k (.pt 900 0)), (4, .k (.pt 901 0)), (7, .k (.ow 902)), (9, .k (.pt 903 0)), (10, .h (.i .i64)), (11, .k (.pt 904 0)), (12, .k (.ow 905)), (13, .h (.i .i64))], [(900, .box 27 [.h (.sl (.i .i64)), .h (.sl (.i .i64)), .h (.sl (.pr (.i .i64) (.pr (.i .i64) (.sl (.pr (.i .i64) (.i .i64))))))]), (901, .box 35 [.k .nil, .k .nil, .k .nil]), (902, .arr 29 (.pr (.i .i64) (.i .i64)) true), (903, .box 35 [.k (.ow 906), .k (.ow 907), .k (.ow 908)]), (904, .box 75 [.h (.i .i64), .h (.i .i64), .h (.sl (.pr (.i .i64) (.i .i64)))]), (905, .arr 3 (.i .i64) true), (906, .arr 3 (.i .i64) true), (907, .arr 3 (.i .i64) true), (908, .arr 22 (.sl (.i .i64)) true)], [(.i .i64), (.i .i64), (.sl (.i .i64)), (.sl (.i .i64)), (.sl (.pr (.i .i64) (.pr (.i .i64) (.sl (.pr (.i .i64) (.i .i64)))))), (.sl (.pr (.i .i64) (.i .i64))), (.i .i64), (.i .i64), (.sl (.pr (.i .i64) (.i .i64))), (.sl (.i .i64)), (.sl (.i .i64)), (.sl (.i .i64)), (.sl (.sl (.i .i64)))]⟩
def o_ref30_Read_3 : List (Exit × PS) := [((.exit 5), ⟨[(2, .k (.pt 900 0)), (4, .k (.pt 901 0)), (7, .k (.ow 902)), (9, .k (.pt 903 0)), (10, .h (.i .i64)), (11, .k (.pt 904 0)), (12, .k (.ow 905))], [(900, .box 27 [.h (.sl (.i .i64)), .h (.sl (.i .i64)), .h (.sl (.pr (.i .i64) (.pr (.i .i64) (.sl (.pr (.i .i64) (.i .i64))))))]), (901, .box 35 [.k .nil, .k .nil, .k .nil]), (902, .arr 29 (.pr (.i .i64) (.i .i64)) true), (903, .box 35 [.k (.ow 906), .k (.ow 907), .k (.ow 908)]), (904, .box 75 [.h (.i .i64), .h (.i .i64), .h (.sl (.pr (.i .i64) (.i .i64)))]), (905, .arr 3 (.i .i64) true), (906, .arr 3 (.i .i64) true), (907, .arr 3 (.i .i64) true), (908, .arr 22 (.sl (.i .i64)) true)], [(.i .i64), (.sl (.i .i64)), (.sl (.i .i64)), (.sl (.pr (.i .i64) (.pr (.i .i64) (.sl (.pr (.i .i64) (.i .i64)))))), (.sl (.pr (.i .i64) (.i .i64))), (.i .i64), (.i .i64), (.sl (.pr (.i .i64) (.i .i64))), (.sl (.i .i64)), (.sl (.i .i64)), (.sl (.i .i64)), (.sl (.sl (.i .i64)))]⟩)]
def p_ref30_Read_3 : Pl := .z
noncomputable def l_ref30_Read_3 (N : Nat) : Nat → Int × Int × (List Int) × (List Int) × (List (Int × (Int × (List (Int × Int))))) × (List (Int × Int)) × Int × Int × (List (Int × Int)) × (List Int) × (List Int) × (List Int) × (List (List Int)) → Option (Int × (List Int) × (List Int) × (List (Int × (Int × (List (Int × Int))))) × (List (Int × Int)) × Int × Int × (List (Int × Int)) × (List Int) × (List Int) × (List Int) × (List (List Int))) := loopF (exC T (ct_ref30_Read N) N (codeAt [1, 1, 1, 1, 1, 1, 1, 0, 1, 0, 0, 1, 0, 0, 1, 1, 0, 1, 0, 0] (bodyOf Try.f12))) 117 i_ref30_Read_3 o_ref30_Read_3 p_ref30_Read_3
def i_ref30_Read_2 : PS := ⟨[(2, .k (.pt 900 0)), (4, .k (.pt 901 0)), (7, .k (.ow 902)), (9, .k (.pt 903 0)), (10, .h (.i .i64))], [(900, .box 27 [.h (.sl (.i .i64)), .h (.sl (.i .i64)), .h (.sl (.pr (.i .i64) (.pr (.i .i64) (.sl (.pr (.i .i64) (.i .i64))))))]), (901, .box 35 [.k .nil, .k .nil, .k .nil]), (902, .arr 29 (.pr (.i .i64) (.i .i64)) true), (903, .box 35 [.k (.ow 904), .k (.ow 905), .k (.ow 906)]), (904, .arr 3 (.i .i64) true), (905, .arr 3 (.i .i64) true), (906, .arr 22 (.sl (.i .i64)) true)], [(.i .i64), (.sl (.i .i64)), (.sl (.i .i64)), (.sl (.pr (.i .i64) (.pr (.i .i64) (.sl (.pr (.i .i64) (.i .i64)))))), (.sl (.pr (.i .i64) (.i .i64))), (.sl (.i .i64)), (.sl (.i .i64)), (.sl (.sl (.i .i64)))]⟩
def o_ref30_Read_2 : List (Exit × PS) := [((.exit 3), ⟨[(4, .k (.pt 900 0)), (7, .k (.ow 901)), (9, .k (.pt 902 0))], [(900, .box 35 [.k .nil, .k .nil, .k .nil]), (901, .arr 29 (.pr (.i .i64) (.i .i64)) true), (902, .box 35 [.k (.ow 903), .k (.ow 904), .k (.ow 905)]), (903, .arr 3 (.i .i64) true), (904, .arr 3 (.i .i64) true), (905, .arr 22 (.sl (.i .i64)) true)], [(.sl (.pr (.i .i64) (.i .i64))), (.sl (.i .i64)), (.sl (.i .i64)), (.sl (.sl (.i .i64)))]⟩)]
def p_ref30_Read_2 : Pl := (.n .z (.n (.n (.n .z (.n .z (.n (.n .z (.n (.loop i_ref30_Read_3 o_ref30_Read_3 p_ref30_Read_3) .z)) .z))) .z) .z))
noncomputable def l_ref30_Read_2 (N : Nat) : Nat → Int × (List Int) × (List Int) × (List (Int × (Int × (List (Int × Int))))) × (List (Int × Int)) × (List Int) × (List Int) × (List (List Int)) → Option ((List (Int × Int)) × (List Int) × (List Int) × (List (List Int))) := loopF (exC T (ct_ref30_Read N) N (codeAt [1, 1, 1, 1, 1, 1, 1, 0, 1, 0, 0] (bodyOf Try.f12))) 117 i_ref30_Read_2 o_ref30_Read_2 p_ref30_Read_2
def i_ref30_Read_1 : PS := ⟨[(2, .k (.pt 900 0)), (3, .k (.pt 901 0)), (4, .k (.pt 902 0)), (7, .k (.ow 903)), (8, .k (.pt 904 0))], [(900, .box 27 [.h (.sl (.i .i64)), .h (.sl (.i .i64)), .h (.sl (.pr (.i .i64) (.pr (.i .i64) (.sl (.pr (.i .i64) (.i .i64))))))]), (901, .box 29 [.h (.i .i64), .h (.i .i64)]), (902, .box 35 [.k .nil, .k .nil, .k .nil]), (903, .arr 29 (.pr (.i .i64) (.i .i64)) true), (904, .box 29 [.h (.i .i64), .h (.i .i64)])], [(.sl (.i .i64)), (.sl (.i .i64)), (.sl (.pr (.i .i64) (.pr (.i .i64) (.sl (.pr (.i .i64) (.i .i64)))))), (.i .i64), (.i .i64), (.sl (.pr (.i .i64) (.i .i64))), (.i .i64), (.i .i64)]⟩
def o_ref30_Read_1 : List (Exit × PS) := [((.exit 1), ⟨[(2, .k (.pt 900 0)), (3, .k (.pt 901 0)), (4, .k (.pt 902 0)), (7, .k (.ow 903)), (8, .k (.pt 904 0))], [(900, .box 27 [.h (.sl (.i .i64)), .h (.sl (.i .i64)), .h (.sl (.pr (.i .i64) (.pr (.i .i64) (.sl (.pr (.i .i64) (.i .i64))))))]), (901, .box 29 [.h (.i .i64), .h (.i .i64)]), (902, .box 35 [.k .nil, .k .nil, .k .nil]), (903, .arr 29 (.pr (.i .i64) (.i .i64)) true), (904, .box 29 [.h (.i .i64), .h (.i .i64)])], [(.sl (.i .i64)), (.sl (.i .i64)), (.sl (.pr (.i .i64) (.pr (.i .i64) (.sl (.pr (.i .i64) (.i .i64)))))), (.i .i64), (.i .i64), (.sl (.pr (.i .i64) (.i .i64))), (.i .i64), (.i .i64)]⟩)]
def p_ref30_Read_1 : Pl := .z
noncomputable def l_ref30_Read_1 (N : Nat) : Nat → (List Int) × (List Int) × (List (Int × (Int × (List (Int × Int))))) × Int × Int × (List (Int × Int)) × Int × Int → Option ((List Int) × (List Int) × (List (Int × (Int × (List (Int × Int))))) × Int × Int × (List (Int × Int)) × Int × Int) := loopF (exC T (ct_ref30_Read N) N (codeAt [1, 1, 1, 1, 0, 0, 0] (bodyOf Try.f12))) 117 i_ref30_Read_1 o_ref30_Read_1 p_ref30_Read_1
def p_ref30_Read : Pl := (.n .z (.n .z (.n .z (.n .z (.n (.n (.loop i_ref30_Read_1 o_ref30_Read_1 p_ref30_Read_1) .z) (.n .z (.n .z (.n (.n .z (.n (.loop i_ref30_Read_2 o_ref30_Read_2 p_ref30_Read_2) .z)) .z))))))))
def r_ref30_Read : PS := ⟨[(4, .k (.pt 900 0)), (5, .k (.ow 904)), (6, .h (.i .i64))], [(900, .box 35 [.h (.sl (.i .i64)), .h (.sl (.i .i64)), .h (.sl (.sl (.i .i64)))]), (904, .arr 29 (.pr (.i .i64) (.i .i64)) true)], [(.i .i64), (.sl (.i .i64)), (.sl (.i .i64)), (.sl (.sl (.i .i64))), (.sl (.pr (.i .i64) (.i .i64)))]⟩
noncomputable def m_ref30_Read (N : Nat) : (List Int) × (List Int) × (List (Int × (Int × (List (Int × Int))))) × Int × Int → Option (Int × (List Int) × (List Int) × (List (List Int)) × (List (Int × Int))) := exF T ct_ref30_Read N (bodyOf Try.f12) 117 p_ref30_Read [.ag [.h (.sl (.i .i64)), .h (.sl (.i .i64)), .h (.sl (.pr (.i .i64) (.pr (.i .i64) (.sl (.pr (.i .i64) (.i .i64))))))], .ag [.h (.i .i64), .h (.i .i64)]] [] [(.sl (.i .i64)), (.sl (.i .i64)), (.sl (.pr (.i .i64) (.pr (.i .i64) (.sl (.pr (.i .i64) (.i .i64)))))), (.i .i64), (.i .i64)] r_ref30_Read
noncomputable def c_ref30_Read (N : Nat) : Ctr := ⟨12, [.ag [.h (.sl (.i .i64)), .h (.sl (.i .i64)), .h (.sl (.pr (.i .i64) (.pr (.i .i64) (.sl (.pr (.i .i64) (.i .i64))))))], .ag [.h (.i .i64), .h (.i .i64)]], [], [(.sl (.i .i64)), (.sl (.i .i64)), (.sl (.pr (.i .i64) (.pr (.i .i64) (.sl (.pr (.i .i64) (.i .i64)))))), (.i .i64), (.i .i64)], Tup r_ref30_Read.c, m_ref30_Read N, fun y _ k => k (resG T (mkPS 117 r_ref30_Read y) Try.f12.results.toList) (keepH' [904] (mkPS 117 r_ref30_Read y).h), true, false⟩
theorem l_ref30_Read_3_s (N m : Nat) (i : Int) (k : Int) (s : (List Int)) (s2 : (List Int)) (s3 : (List (Int × (Int × (List (Int × Int)))))) (l : (List (Int × Int))) (x : Int) (x2 : Int) (x3 : (List (Int × Int))) (v12 : (List Int)) (v906 : (List Int)) (v907 : (List Int)) (v908 : (List (List Int))) : l_ref30_Read_3 N (m + 1) (i, k, s, s2, s3, l, x, x2, x3, v12, v906, v907, v908) = cond (decide (k < (((List.length x3) : Nat) : Int)))
   (obind (nthI x3 k) fun z1 =>
    obind (m_ref30_Place N (l, (z1.1, z1.2))) fun z2 =>
    obind (appI (8 : Nat) v12 [z2]) fun z3 =>
    (l_ref30_Read_3 N m (i, ((IntKind.wrap .i64 (k + (1 : Int))), (s, (s2, (s3, (l, (x, (x2, (x3, (z3, (v906, (v907, v908))))))))))))))
   (some (i, (s, (s2, (s3, (l, (x, (x2, (x3, (v12, (v906, (v907, v908)))))))))))) := by kernel_rfl
theorem l_ref30_Read_2_s (N m : Nat) (i : Int) (s : (List Int)) (s2 : (List Int)) (s3 : (List (Int × (Int × (List (Int × Int)))))) (l : (List (Int × Int))) (v904 : (List Int)) (v905 : (List Int)) (v906 : (List (List Int))) : l_ref30_Read_2 N (m + 1) (i, s, s2, s3, l, v904, v905, v906) = cond (decide (i < (((List.length l) : Nat) : Int)))
   (obind (nthI l i) fun z1 =>
    obind (nthI l i) fun z2 =>
    obind (nthI s3 z2.1) fun z3 =>
    obind (l_ref30_Read_3 N N (i, ((0 : Int), (s, (s2, (s3, (l, (z3.1, (z3.2.1, (z3.2.2, ([], (v904, (v905, v906))))))))))))) fun z4 =>
    obind (appI (8 : Nat) z4.2.2.2.2.2.2.2.2.2.1 [z4.2.2.2.2.2.1]) fun z5 =>
    obind (appI (8 : Nat) z4.2.2.2.2.2.2.2.2.2.2.1 [z4.2.2.2.2.2.2.1]) fun z6 =>
    obind (appI (24 : Nat) z4.2.2.2.2.2.2.2.2.2.2.2 [z4.2.2.2.2.2.2.2.2.1]) fun z7 =>
    (l_ref30_Read_2 N m ((IntKind.wrap .i64 (z4.1 + (1 : Int))), (z4.2.1, (z4.2.2.1, (z4.2.2.2.1, (z4.2.2.2.2.1, (z5, (z6, z7)))))))))
   (some (l, (v904, (v905, v906)))) := by kernel_rfl
theorem l_ref30_Read_1_s (N m : Nat) (s : (List Int)) (s2 : (List Int)) (s3 : (List (Int × (Int × (List (Int × Int)))))) (h : Int) (h2 : Int) (l : (List (Int × Int))) (v8 : Int) (v82 : Int) : l_ref30_Read_1 N (m + 1) (s, s2, s3, h, h2, l, v8, v82) = obind (m_ref30_Place N (l, (v8, v82))) fun z1 =>
  cond (decide (z1 < (0 : Int)))
   (obind (appI (16 : Nat) l [(v8, v82)]) fun z2 =>
    obind (nthI s3 v8) fun z3 =>
    obind (nthI z3.2.2 (0 : Int)) fun z4 =>
    (l_ref30_Read_1 N m (s, (s2, (s3, (h, (h2, (z2, (z4.1, z4.2)))))))))
   (some (s, (s2, (s3, (h, (h2, (l, (v8, v82)))))))) := by kernel_rfl
theorem m_ref30_Read_eq (N : Nat) (s : (List Int)) (s2 : (List Int)) (s3 : (List (Int × (Int × (List (Int × Int)))))) (h : Int) (h2 : Int) : m_ref30_Read (N + 1) (s, s2, s3, h, h2) = obind (m_ref30_Right N (s, (s2, s3))) fun z1 =>
  cond (!z1)
   (some ((1 : Int), ([], ([], ([], [])))))
   (obind (m_ref02_Good N (s, (s2, (h, h2)))) fun z2 =>
    cond (!z2)
     (some ((3 : Int), ([], ([], ([], [])))))
     (obind (nthI s3 h) fun z3 =>
      obind (nthI z3.2.2 (0 : Int)) fun z4 =>
      obind (l_ref30_Read_1 N N (s, (s2, (s3, (h, (h2, ([(h, h2)], (z4.1, z4.2)))))))) fun z5 =>
      cond (!((decide (z5.2.2.2.2.2.2.1 = z5.2.2.2.1)) && (decide (z5.2.2.2.2.2.2.2 = z5.2.2.2.2.1))))
       (some ((8 : Int), ([], ([], ([], [])))))
       (obind (l_ref30_Read_2 N N ((0 : Int), (z5.1, (z5.2.1, (z5.2.2.1, (z5.2.2.2.2.2.1, ([], ([], [])))))))) fun z6 =>
        obind (m_ref14_Right N (z6.2.1, (z6.2.2.1, z6.2.2.2))) fun z7 =>
        cond (!z7)
         (some ((8 : Int), ([], ([], ([], [])))))
         (some ((0 : Int), (z6.2.1, (z6.2.2.1, (z6.2.2.2, z6.1)))))))) := by kernel_rfl
theorem c_ref30_Read_ok (N : Nat) : (c_ref30_Read N).ok Try.prog := exF_ok (T := T) (CT := ct_ref30_Read) (N := N) (fun M => ⟨tOk, (ctAll_cons (c_ref30_Right_ok M) (ctAll_cons (c_ref02_Good_ok M) (ctAll_cons (c_ref30_Place_ok M) (ctAll_cons (c_ref14_Right_ok M) ctAll_nil)))), mixed, bwAll⟩) Try.func12 (by kernel_rfl) (by kernel_rfl) p_ref30_Read [.ag [.h (.sl (.i .i64)), .h (.sl (.i .i64)), .h (.sl (.pr (.i .i64) (.pr (.i .i64) (.sl (.pr (.i .i64) (.i .i64))))))], .ag [.h (.i .i64), .h (.i .i64)]] [] [(.sl (.i .i64)), (.sl (.i .i64)), (.sl (.pr (.i .i64) (.pr (.i .i64) (.sl (.pr (.i .i64) (.i .i64)))))), (.i .i64), (.i .i64)] r_ref30_Read true false [904] (by kernel_rfl) (fun y => by kernel_rfl) (fun h => by cases h) (fun y => by kernel_rfl) (m_ref30_Read N) (fun x => by kernel_rfl)
noncomputable def ct_ref02_Give (N : Nat) : List Ctr := [c_ref02_Right N, c_ref02_Good N]
def p_ref02_Give : Pl := .z
def r_ref02_Give : PS := ⟨[(4, .k (.pt 900 0)), (5, .h (.i .i64))], [(900, .box 24 [.h (.sl (.i .i64)), .h (.sl (.i .i64))])], [(.i .i64), (.sl (.i .i64)), (.sl (.i .i64))]⟩
noncomputable def m_ref02_Give (N : Nat) : (List Int) × (List Int) × Int × Int → Option (Int × (List Int) × (List Int)) := exF T ct_ref02_Give N (bodyOf Try.f43) 28 p_ref02_Give [.ag [.h (.sl (.i .i64)), .h (.sl (.i .i64))], .ag [.h (.i .i64), .h (.i .i64)]] [] [(.sl (.i .i64)), (.sl (.i .i64)), (.i .i64), (.i .i64)] r_ref02_Give
noncomputable def c_ref02_Give (N : Nat) : Ctr := ⟨43, [.ag [.h (.sl (.i .i64)), .h (.sl (.i .i64))], .ag [.h (.i .i64), .h (.i .i64)]], [], [(.sl (.i .i64)), (.sl (.i .i64)), (.i .i64), (.i .i64)], Tup r_ref02_Give.c, m_ref02_Give N, fun y _ k => k (resG T (mkPS 28 r_ref02_Give y) Try.f43.results.toList) (keepH' [] (mkPS 28 r_ref02_Give y).h), false, false⟩
theorem m_ref02_Give_eq (N : Nat) (p : (List Int)) (p2 : (List Int)) (h : Int) (h2 : Int) : m_ref02_Give (N + 1) (p, p2, h, h2) = obind (m_ref02_Right N (p, p2)) fun z1 =>
  cond (!z1)
   (some ((1 : Int), (p, p2)))
   (obind (m_ref02_Good N (p, (p2, (h, h2)))) fun z2 =>
    cond (!z2)
     (some ((3 : Int), (p, p2)))
     (obind (appI (8 : Nat) [] p2) fun z3 =>
      obind (appI (8 : Nat) z3 [h]) fun z4 =>
      some ((0 : Int), (p, z4)))) := by kernel_rfl
theorem c_ref02_Give_ok (N : Nat) : (c_ref02_Give N).ok Try.prog := exF_ok (T := T) (CT := ct_ref02_Give) (N := N) (fun M => ⟨tOk, (ctAll_cons (c_ref02_Right_ok M) (ctAll_cons (c_ref02_Good_ok M) ctAll_nil)), mixed, bwAll⟩) Try.func43 (by kernel_rfl) (by kernel_rfl) p_ref02_Give [.ag [.h (.sl (.i .i64)), .h (.sl (.i .i64))], .ag [.h (.i .i64), .h (.i .i64)]] [] [(.sl (.i .i64)), (.sl (.i .i64)), (.i .i64), (.i .i64)] r_ref02_Give false false [] (by kernel_rfl) (fun y => by kernel_rfl) (fun _ => ⟨rfl, rfl⟩) (fun y => by kernel_rfl) (m_ref02_Give N) (fun x => by kernel_rfl)
noncomputable def ct_ref30_Give (N : Nat) : List Ctr := [c_ref30_Read N, c_ref30_Place N, c_ref02_Give N]
def i_ref30_Give_4 : PS := ⟨[(4, .k (.pt 900 0)), (7, .k (.ow 901)), (13, .k (.pt 902 0)), (14, .h (.i .i64))], [(900, .box 27 [.k .nil, .k .nil, .k .nil]), (901, .arr 29 (.pr (.i .i64) (.i .i64)) true), (902, .box 27 [.h (.sl (.i .i64)), .h (.sl (.i .i64)), .k (.ow 903)]), (903, .arr 75 (.pr (.i .i64) (.pr (.i .i64) (.sl (.pr (.i .i64) (.i .i64))))) true)], [(.i .i64), (.sl (.pr (.i .i64) (.i .i64))), (.sl (.i .i64)), (.sl (.i .i64)), (.sl (.pr (.i .i64) (.pr (.i .i64) (.sl (.pr (.i .i64) (.i .i64))))))]⟩
def o_ref30_Give_4 : List (Exit × PS) := [((.exit 6), ⟨[(4, .k (.pt 900 0)), (13, .k (.pt 901 0))], [(900, .box 27 [.k .nil, .k .nil, .k .nil]), (901, .box 27 [.h (.sl (.i .i64)), .h (.sl (.i .i64)), .k (.ow 902)]), (902, .arr 75 (.pr (.i .i64) (.pr (.i .i64) (.sl (.pr (.i .i64) (.i .i64))))) true)], [(.sl (.i .i64)), (.sl (.i .i64)), (.sl (.pr (.i .i64) (.pr (.i .i64) (.sl (.pr (.i .i64) (.i .i64))))))]⟩)]
def p_ref30_Give_4 : Pl := .z
noncomputable def l_ref30_Give_4 (N : Nat) : Nat → Int × (List (Int × Int)) × (List Int) × (List Int) × (List (Int × (Int × (List (Int × Int))))) → Option ((List Int) × (List Int) × (List (Int × (Int × (List (Int × Int)))))) := loopF (exC T (ct_ref30_Give N) N (codeAt [1, 1, 1, 1, 1, 0, 1, 0, 0] (bodyOf Try.f14))) 115 i_ref30_Give_4 o_ref30_Give_4 p_ref30_Give_4
def i_ref30_Give_3 : PS := ⟨[(2, .k (.pt 900 0)), (4, .k (.pt 901 0)), (7, .k (.ow 902)), (9, .h (.i .i64)), (10, .h .b), (12, .h (.i .i64))], [(900, .box 27 [.h (.sl (.i .i64)), .h (.sl (.i .i64)), .h (.sl (.pr (.i .i64) (.pr (.i .i64) (.sl (.pr (.i .i64) (.i .i64))))))]), (901, .box 27 [.k .nil, .k .nil, .k .nil]), (902, .arr 29 (.pr (.i .i64) (.i .i64)) true)], [(.i .i64), .b, (.i .i64), (.sl (.i .i64)), (.sl (.i .i64)), (.sl (.pr (.i .i64) (.pr (.i .i64) (.sl (.pr (.i .i64) (.i .i64)))))), (.sl (.pr (.i .i64) (.i .i64)))]⟩
def o_ref30_Give_3 : List (Exit × PS) := [((.exit 4), ⟨[(2, .k (.pt 900 0)), (4, .k (.pt 901 0)), (7, .k (.ow 902)), (9, .h (.i .i64))], [(900, .box 27 [.h (.sl (.i .i64)), .h (.sl (.i .i64)), .h (.sl (.pr (.i .i64) (.pr (.i .i64) (.sl (.pr (.i .i64) (.i .i64))))))]), (901, .box 27 [.k .nil, .k .nil, .k .nil]), (902, .arr 29 (.pr (.i .i64) (.i .i64)) true)], [(.i .i64), (.sl (.i .i64)), (.sl (.i .i64)), (.sl (.pr (.i .i64) (.pr (.i .i64) (.sl (.pr (.i .i64) (.i .i64)))))), (.sl (.pr (.i .i64) (.i .i64)))]⟩), (.ret, ⟨[(4, .k (.pt 900 0)), (5, .h (.i .i64))], [(900, .box 27 [.h (.sl (.i .i64)), .h (.sl (.i .i64)), .h (.sl (.pr (.i .i64) (.pr (.i .i64) (.sl (.pr (.i .i64) (.i .i64))))))])], [(.i .i64), (.sl (.i .i64)), (.sl (.i .i64)), (.sl (.pr (.i .i64) (.pr (.i .i64) (.sl (.pr (.i .i64) (.i .i64))))))]⟩)]
def p_ref30_Give_3 : Pl := .z
noncomputable def l_ref30_Give_3 (N : Nat) : Nat → Int × Bool × Int × (List Int) × (List Int) × (List (Int × (Int × (List (Int × Int))))) × (List (Int × Int)) → Option ((Int × (List Int) × (List Int) × (List (Int × (Int × (List (Int × Int))))) × (List (Int × Int))) ⊕ (Int × (List Int) × (List Int) × (List (Int × (Int × (List (Int × Int))))))) := loopF (exC T (ct_ref30_Give N) N (codeAt [1, 1, 1, 0, 1, 0, 0, 1, 0, 0, 1, 1, 1, 0, 0] (bodyOf Try.f14))) 115 i_ref30_Give_3 o_ref30_Give_3 p_ref30_Give_3
def i_ref30_Give_2 : PS := ⟨[(2, .k (.pt 900 0)), (4, .k (.pt 901 0)), (7, .k (.ow 902)), (9, .h (.i .i64)), (10, .h .b), (11, .h (.i .i64))], [(900, .box 27 [.h (.sl (.i .i64)), .h (.sl (.i .i64)), .h (.sl (.pr (.i .i64) (.pr (.i .i64) (.sl (.pr (.i .i64) (.i .i64))))))]), (901, .box 27 [.k .nil, .k .nil, .k .nil]), (902, .arr 29 (.pr (.i .i64) (.i .i64)) true)], [(.i .i64), .b, (.i .i64), (.sl (.i .i64)), (.sl (.i .i64)), (.sl (.pr (.i .i64) (.pr (.i .i64) (.sl (.pr (.i .i64) (.i .i64)))))), (.sl (.pr (.i .i64) (.i .i64)))]⟩
def o_ref30_Give_2 : List (Exit × PS) := [((.exit 2), ⟨[(2, .k (.pt 900 0)), (4, .k (.pt 901 0)), (7, .k (.ow 902)), (9, .h (.i .i64)), (10, .h .b)], [(900, .box 27 [.h (.sl (.i .i64)), .h (.sl (.i .i64)), .h (.sl (.pr (.i .i64) (.pr (.i .i64) (.sl (.pr (.i .i64) (.i .i64))))))]), (901, .box 27 [.k .nil, .k .nil, .k .nil]), (902, .arr 29 (.pr (.i .i64) (.i .i64)) true)], [(.i .i64), .b, (.sl (.i .i64)), (.sl (.i .i64)), (.sl (.pr (.i .i64) (.pr (.i .i64) (.sl (.pr (.i .i64) (.i .i64)))))), (.sl (.pr (.i .i64) (.i .i64)))]⟩)]
def p_ref30_Give_2 : Pl := .z
noncomputable def l_ref30_Give_2 (N : Nat) : Nat → Int × Bool × Int × (List Int) × (List Int) × (List (Int × (Int × (List (Int × Int))))) × (List (Int × Int)) → Option (Int × Bool × (List Int) × (List Int) × (List (Int × (Int × (List (Int × Int))))) × (List (Int × Int))) := loopF (exC T (ct_ref30_Give N) N (codeAt [1, 1, 1, 0, 1, 0, 0, 1, 0, 0, 1, 0, 1, 0, 0] (bodyOf Try.f14))) 115 i_ref30_Give_2 o_ref30_Give_2 p_ref30_Give_2
def i_ref30_Give_1 : PS := ⟨[(2, .k (.pt 900 0)), (4, .k (.pt 901 0)), (7, .k (.ow 902)), (9, .h (.i .i64))], [(900, .box 27 [.h (.sl (.i .i64)), .h (.sl (.i .i64)), .h (.sl (.pr (.i .i64) (.pr (.i .i64) (.sl (.pr (.i .i64) (.i .i64))))))]), (901, .box 27 [.k .nil, .k .nil, .k .nil]), (902, .arr 29 (.pr (.i .i64) (.i .i64)) true)], [(.i .i64), (.sl (.i .i64)), (.sl (.i .i64)), (.sl (.pr (.i .i64) (.pr (.i .i64) (.sl (.pr (.i .i64) (.i .i64)))))), (.sl (.pr (.i .i64) (.i .i64)))]⟩
def o_ref30_Give_1 : List (Exit × PS) := [((.exit 0), ⟨[(2, .k (.pt 900 0)), (4, .k (.pt 901 0)), (7, .k (.ow 902))], [(900, .box 27 [.h (.sl (.i .i64)), .h (.sl (.i .i64)), .h (.sl (.pr (.i .i64) (.pr (.i .i64) (.sl (.pr (.i .i64) (.i .i64))))))]), (901, .box 27 [.k .nil, .k .nil, .k .nil]), (902, .arr 29 (.pr (.i .i64) (.i .i64)) true)], [(.sl (.i .i64)), (.sl (.i .i64)), (.sl (.pr (.i .i64) (.pr (.i .i64) (.sl (.pr (.i .i64) (.i .i64)))))), (.sl (.pr (.i .i64) (.i .i64)))]⟩), (.ret, ⟨[(4, .k (.pt 900 0)), (5, .h (.i .i64))], [(900, .box 27 [.h (.sl (.i .i64)), .h (.sl (.i .i64)), .h (.sl (.pr (.i .i64) (.pr (.i .i64) (.sl (.pr (.i .i64) (.i .i64))))))])], [(.i .i64), (.sl (.i .i64)), (.sl (.i .i64)), (.sl (.pr (.i .i64) (.pr (.i .i64) (.sl (.pr (.i .i64) (.i .i64))))))]⟩)]
def p_ref30_Give_1 : Pl := (.n .z (.n (.n (.n .z (.n (.n .z (.n (.loop i_ref30_Give_2 o_ref30_Give_2 p_ref30_Give_2) .z)) (.n .z (.n (.loop i_ref30_Give_3 o_ref30_Give_3 p_ref30_Give_3) .z)))) .z) .z))
noncomputable def l_ref30_Give_1 (N : Nat) : Nat → Int × (List Int) × (List Int) × (List (Int × (Int × (List (Int × Int))))) × (List (Int × Int)) → Option (((List Int) × (List Int) × (List (Int × (Int × (List (Int × Int))))) × (List (Int × Int))) ⊕ (Int × (List Int) × (List Int) × (List (Int × (Int × (List (Int × Int))))))) := loopF (exC T (ct_ref30_Give N) N (codeAt [1, 1, 1, 0, 1, 0, 0] (bodyOf Try.f14))) 115 i_ref30_Give_1 o_ref30_Give_1 p_ref30_Give_1
def p_ref30_Give : Pl := (.n .z (.n .z (.n .z (.n (.n .z (.n (.loop i_ref30_Give_1 o_ref30_Give_1 p_ref30_Give_1) .z)) (.n .z (.n (.n .z (.n (.loop i_ref30_Give_4 o_ref30_Give_4 p_ref30_Give_4) .z)) .z))))))
def r_ref30_Give : PS := ⟨[(4, .k (.pt 900 0)), (5, .h (.i .i64))], [(900, .box 27 [.h (.sl (.i .i64)), .h (.sl (.i .i64)), .h (.sl (.pr (.i .i64) (.pr (.i .i64) (.sl (.pr (.i .i64) (.i .i64))))))])], [(.i .i64), (.sl (.i .i64)), (.sl (.i .i64)), (.sl (.pr (.i .i64) (.pr (.i .i64) (.sl (.pr (.i .i64) (.i .i64))))))]⟩
noncomputable def m_ref30_Give (N : Nat) : (List Int) × (List Int) × (List (Int × (Int × (List (Int × Int))))) × Int × Int → Option (Int × (List Int) × (List Int) × (List (Int × (Int × (List (Int × Int)))))) := exF T ct_ref30_Give N (bodyOf Try.f14) 115 p_ref30_Give [.ag [.h (.sl (.i .i64)), .h (.sl (.i .i64)), .h (.sl (.pr (.i .i64) (.pr (.i .i64) (.sl (.pr (.i .i64) (.i .i64))))))], .ag [.h (.i .i64), .h (.i .i64)]] [] [(.sl (.i .i64)), (.sl (.i .i64)), (.sl (.pr (.i .i64) (.pr (.i .i64) (.sl (.pr (.i .i64) (.i .i64)))))), (.i .i64), (.i .i64)] r_ref30_Give
noncomputable def c_ref30_Give (N : Nat) : Ctr := ⟨14, [.ag [.h (.sl (.i .i64)), .h (.sl (.i .i64)), .h (.sl (.pr (.i .i64) (.pr (.i .i64) (.sl (.pr (.i .i64) (.i .i64))))))], .ag [.h (.i .i64), .h (.i .i64)]], [], [(.sl (.i .i64)), (.sl (.i .i64)), (.sl (.pr (.i .i64) (.pr (.i .i64) (.sl (.pr (.i .i64) (.i .i64)))))), (.i .i64), (.i .i64)], Tup r_ref30_Give.c, m_ref30_Give N, fun y _ k => k (resG T (mkPS 115 r_ref30_Give y) Try.f14.results.toList) (keepH' [] (mkPS 115 r_ref30_Give y).h), false, false⟩
theorem l_ref30_Give_4_s (N m : Nat) (i : Int) (l : (List (Int × Int))) (out : (List Int)) (out2 : (List Int)) (v903 : (List (Int × (Int × (List (Int × Int)))))) : l_ref30_Give_4 N (m + 1) (i, l, out, out2, v903) = cond (decide ((0 : Int) ≤ i))
   (obind (nthI l i) fun z1 =>
    obind (nthI l i) fun z2 =>
    obind (m_ref02_Give N (out, (out2, (z2.1, z2.2)))) fun z3 =>
    obind (nthI l i) fun z4 =>
    obind (nthI l i) fun z5 =>
    obind (nthI v903 z5.1) fun z6 =>
    obind (nthI v903 z5.1) fun z7 =>
    (l_ref30_Give_4 N m ((IntKind.wrap .i64 (i - (1 : Int))), (l, (z3.2.1, (z3.2.2, (List.set v903 (Int.toNat z5.1) ((0 : Int), ((0 : Int), [])))))))))
   (some (out, (out2, v903))) := by kernel_rfl
theorem l_ref30_Give_3_s (N m : Nat) (c : Int) (own : Bool) (k : Int) (s : (List Int)) (s2 : (List Int)) (s3 : (List (Int × (Int × (List (Int × Int)))))) (l : (List (Int × Int))) : l_ref30_Give_3 N (m + 1) (c, own, k, s, s2, s3, l) = obind (nthI s3 c) fun z1 =>
  cond (decide (k < (((List.length z1.2.2) : Nat) : Int)))
   (cond (!own)
     (obind (nthI s3 c) fun z2 =>
      obind (nthI z2.2.2 k) fun z3 =>
      obind (m_ref30_Place N (l, (z3.1, z3.2))) fun z4 =>
      cond (decide ((0 : Int) ≤ z4))
       (some (.inr ((5 : Int), (s, (s2, s3)))))
       ((l_ref30_Give_3 N m (c, (own, ((IntKind.wrap .i64 (k + (1 : Int))), (s, (s2, (s3, l)))))))))
     (some (.inl (c, (s, (s2, (s3, l)))))))
   (some (.inl (c, (s, (s2, (s3, l)))))) := by kernel_rfl
theorem l_ref30_Give_2_s (N m : Nat) (c : Int) (own : Bool) (i : Int) (s : (List Int)) (s2 : (List Int)) (s3 : (List (Int × (Int × (List (Int × Int)))))) (l : (List (Int × Int))) : l_ref30_Give_2 N (m + 1) (c, own, i, s, s2, s3, l) = cond (decide (i < (((List.length l) : Nat) : Int)))
   (cond own
     ((l_ref30_Give_2 N m (c, (true, ((IntKind.wrap .i64 (i + (1 : Int))), (s, (s2, (s3, l))))))))
     (obind (nthI l i) fun z1 =>
      obind (nthI l i) fun z2 =>
      (l_ref30_Give_2 N m (c, ((decide (z2.1 = c)), ((IntKind.wrap .i64 (i + (1 : Int))), (s, (s2, (s3, l)))))))))
   (some (c, (own, (s, (s2, (s3, l)))))) := by kernel_rfl
theorem l_ref30_Give_1_s (N m : Nat) (c : Int) (s : (List Int)) (s2 : (List Int)) (s3 : (List (Int × (Int × (List (Int × Int)))))) (l : (List (Int × Int))) : l_ref30_Give_1 N (m + 1) (c, s, s2, s3, l) = cond (decide (c < (((List.length s3) : Nat) : Int)))
   (obind (l_ref30_Give_2 N N (c, (false, ((0 : Int), (s, (s2, (s3, l))))))) fun z1 =>
    obind (l_ref30_Give_3 N N (z1.1, (z1.2.1, ((0 : Int), (z1.2.2.1, (z1.2.2.2.1, (z1.2.2.2.2.1, z1.2.2.2.2.2))))))) fun z2 =>
    (match z2 with
    | .inl zy3 => (l_ref30_Give_1 N m ((IntKind.wrap .i64 (zy3.1 + (1 : Int))), (zy3.2.1, (zy3.2.2.1, (zy3.2.2.2.1, zy3.2.2.2.2)))))
    | .inr zy4 => some (.inr (zy4.1, (zy4.2.1, (zy4.2.2.1, zy4.2.2.2))))))
   (some (.inl (s, (s2, (s3, l))))) := by kernel_rfl
theorem m_ref30_Give_eq (N : Nat) (s : (List Int)) (s2 : (List Int)) (s3 : (List (Int × (Int × (List (Int × Int)))))) (h : Int) (h2 : Int) : m_ref30_Give (N + 1) (s, s2, s3, h, h2) = obind (m_ref30_Read N (s, (s2, (s3, (h, h2))))) fun z1 =>
  cond (!(decide (z1.1 = (0 : Int))))
   (some (z1.1, (s, (s2, s3))))
   (obind (l_ref30_Give_1 N N ((0 : Int), (s, (s2, (s3, z1.2.2.2.2))))) fun z2 =>
    (match z2 with
    | .inl zy3 => obind (appI (40 : Nat) [] zy3.2.2.1) fun z4 =>
      obind (l_ref30_Give_4 N N ((IntKind.wrap .i64 ((((List.length zy3.2.2.2) : Nat) : Int) - (1 : Int))), (zy3.2.2.2, (zy3.1, (zy3.2.1, z4))))) fun z5 =>
      some ((0 : Int), (z5.1, (z5.2.1, z5.2.2)))
    | .inr zy6 => some (zy6.1, (zy6.2.1, (zy6.2.2.1, zy6.2.2.2))))) := by kernel_rfl
theorem c_ref30_Give_ok (N : Nat) : (c_ref30_Give N).ok Try.prog := exF_ok (T := T) (CT := ct_ref30_Give) (N := N) (fun M => ⟨tOk, (ctAll_cons (c_ref30_Read_ok M) (ctAll_cons (c_ref30_Place_ok M) (ctAll_cons (c_ref02_Give_ok M) ctAll_nil))), mixed, bwAll⟩) Try.func14 (by kernel_rfl) (by kernel_rfl) p_ref30_Give [.ag [.h (.sl (.i .i64)), .h (.sl (.i .i64)), .h (.sl (.pr (.i .i64) (.pr (.i .i64) (.sl (.pr (.i .i64) (.i .i64))))))], .ag [.h (.i .i64), .h (.i .i64)]] [] [(.sl (.i .i64)), (.sl (.i .i64)), (.sl (.pr (.i .i64) (.pr (.i .i64) (.sl (.pr (.i .i64) (.i .i64)))))), (.i .i64), (.i .i64)] r_ref30_Give false false [] (by kernel_rfl) (fun y => by kernel_rfl) (fun _ => ⟨rfl, rfl⟩) (fun y => by kernel_rfl) (m_ref30_Give N) (fun x => by kernel_rfl)
noncomputable def ct_ref02_Same (N : Nat) : List Ctr := [c_ref01_Ints N]
def p_ref02_Same : Pl := .z
def r_ref02_Same : PS := ⟨[(4, .h .b)], [], [.b]⟩
noncomputable def m_ref02_Same (N : Nat) : (List Int) × (List Int) × (List Int) × (List Int) → Option (Bool) := exF T ct_ref02_Same N (bodyOf Try.f45) 17 p_ref02_Same [.ag [.h (.sl (.i .i64)), .h (.sl (.i .i64))], .ag [.h (.sl (.i .i64)), .h (.sl (.i .i64))]] [] [(.sl (.i .i64)), (.sl (.i .i64)), (.sl (.i .i64)), (.sl (.i .i64))] r_ref02_Same
noncomputable def c_ref02_Same (N : Nat) : Ctr := ⟨45, [.ag [.h (.sl (.i .i64)), .h (.sl (.i .i64))], .ag [.h (.sl (.i .i64)), .h (.sl (.i .i64))]], [], [(.sl (.i .i64)), (.sl (.i .i64)), (.sl (.i .i64)), (.sl (.i .i64))], Tup r_ref02_Same.c, m_ref02_Same N, fun y _ k => k (resG T (mkPS 17 r_ref02_Same y) Try.f45.results.toList) (keepH' [] (mkPS 17 r_ref02_Same y).h), false, true⟩
theorem m_ref02_Same_eq (N : Nat) (a : (List Int)) (a2 : (List Int)) (b : (List Int)) (b2 : (List Int)) : m_ref02_Same (N + 1) (a, a2, b, b2) = obind (m_ref01_Ints N (a, b)) fun z1 =>
  cond z1
   (obind (m_ref01_Ints N (a2, b2)) fun z2 =>
    some z2)
   (some false) := by kernel_rfl
theorem c_ref02_Same_ok (N : Nat) : (c_ref02_Same N).ok Try.prog := exF_ok (T := T) (CT := ct_ref02_Same) (N := N) (fun M => ⟨tOk, (ctAll_cons (c_ref01_Ints_ok M) ctAll_nil), mixed, bwAll⟩) Try.func45 (by kernel_rfl) (by kernel_rfl) p_ref02_Same [.ag [.h (.sl (.i .i64)), .h (.sl (.i .i64))], .ag [.h (.sl (.i .i64)), .h (.sl (.i .i64))]] [] [(.sl (.i .i64)), (.sl (.i .i64)), (.sl (.i .i64)), (.sl (.i .i64))] r_ref02_Same false true [] (by kernel_rfl) (fun y => by kernel_rfl) (fun _ => ⟨rfl, rfl⟩) (fun y => by kernel_rfl) (m_ref02_Same N) (fun x => by kernel_rfl)
noncomputable def ct_ref30_Same (N : Nat) : List Ctr := [c_ref02_Same N, c_ref30_Handles N]
def i_ref30_Same_1 : PS := ⟨[(2, .k (.pt 900 0)), (3, .k (.pt 901 0)), (5, .h (.i .i64))], [(900, .box 27 [.h (.sl (.i .i64)), .h (.sl (.i .i64)), .h (.sl (.pr (.i .i64) (.pr (.i .i64) (.sl (.pr (.i .i64) (.i .i64))))))]), (901, .box 27 [.h (.sl (.i .i64)), .h (.sl (.i .i64)), .h (.sl (.pr (.i .i64) (.pr (.i .i64) (.sl (.pr (.i .i64) (.i .i64))))))])], [(.i .i64), (.sl (.i .i64)), (.sl (.i .i64)), (.sl (.pr (.i .i64) (.pr (.i .i64) (.sl (.pr (.i .i64) (.i .i64)))))), (.sl (.i .i64)), (.sl (.i .i64)), (.sl (.pr (.i .i64) (.pr (.i .i64) (.sl (.pr (.i .i64) (.i .i64))))))]⟩
def o_ref30_Same_1 : List (Exit × PS) := [((.exit 0), ⟨[], [], []⟩), (.ret, ⟨[(4, .h .b)], [], [.b]⟩)]
def p_ref30_Same_1 : Pl := .z
noncomputable def l_ref30_Same_1 (N : Nat) : Nat → Int × (List Int) × (List Int) × (List (Int × (Int × (List (Int × Int))))) × (List Int) × (List Int) × (List (Int × (Int × (List (Int × Int))))) → Option ((Unit) ⊕ (Bool)) := loopF (exC T (ct_ref30_Same N) N (codeAt [1, 1, 0, 1, 0, 0] (bodyOf Try.f17))) 60 i_ref30_Same_1 o_ref30_Same_1 p_ref30_Same_1
def p_ref30_Same : Pl := (.n .z (.n .z (.n (.n .z (.n (.loop i_ref30_Same_1 o_ref30_Same_1 p_ref30_Same_1) .z)) .z)))
def r_ref30_Same : PS := ⟨[(4, .h .b)], [], [.b]⟩
noncomputable def m_ref30_Same (N : Nat) : (List Int) × (List Int) × (List (Int × (Int × (List (Int × Int))))) × (List Int) × (List Int) × (List (Int × (Int × (List (Int × Int))))) → Option (Bool) := exF T ct_ref30_Same N (bodyOf Try.f17) 60 p_ref30_Same [.ag [.h (.sl (.i .i64)), .h (.sl (.i .i64)), .h (.sl (.pr (.i .i64) (.pr (.i .i64) (.sl (.pr (.i .i64) (.i .i64))))))], .ag [.h (.sl (.i .i64)), .h (.sl (.i .i64)), .h (.sl (.pr (.i .i64) (.pr (.i .i64) (.sl (.pr (.i .i64) (.i .i64))))))]] [] [(.sl (.i .i64)), (.sl (.i .i64)), (.sl (.pr (.i .i64) (.pr (.i .i64) (.sl (.pr (.i .i64) (.i .i64)))))), (.sl (.i .i64)), (.sl (.i .i64)), (.sl (.pr (.i .i64) (.pr (.i .i64) (.sl (.pr (.i .i64) (.i .i64))))))] r_ref30_Same
noncomputable def c_ref30_Same (N : Nat) : Ctr := ⟨17, [.ag [.h (.sl (.i .i64)), .h (.sl (.i .i64)), .h (.sl (.pr (.i .i64) (.pr (.i .i64) (.sl (.pr (.i .i64) (.i .i64))))))], .ag [.h (.sl (.i .i64)), .h (.sl (.i .i64)), .h (.sl (.pr (.i .i64) (.pr (.i .i64) (.sl (.pr (.i .i64) (.i .i64))))))]], [], [(.sl (.i .i64)), (.sl (.i .i64)), (.sl (.pr (.i .i64) (.pr (.i .i64) (.sl (.pr (.i .i64) (.i .i64)))))), (.sl (.i .i64)), (.sl (.i .i64)), (.sl (.pr (.i .i64) (.pr (.i .i64) (.sl (.pr (.i .i64) (.i .i64))))))], Tup r_ref30_Same.c, m_ref30_Same N, fun y _ k => k (resG T (mkPS 60 r_ref30_Same y) Try.f17.results.toList) (keepH' [] (mkPS 60 r_ref30_Same y).h), false, true⟩
theorem l_ref30_Same_1_s (N m : Nat) (i : Int) (a : (List Int)) (a2 : (List Int)) (a3 : (List (Int × (Int × (List (Int × Int)))))) (b : (List Int)) (b2 : (List Int)) (b3 : (List (Int × (Int × (List (Int × Int)))))) : l_ref30_Same_1 N (m + 1) (i, a, a2, a3, b, b2, b3) = cond (decide (i < (((List.length a3) : Nat) : Int)))
   (obind (nthI a3 i) fun z1 =>
    obind (nthI b3 i) fun z2 =>
    cond (!(decide (z1.1 = z2.1)))
     (some (.inr false))
     (cond (!(decide (z1.2.1 = z2.2.1)))
       (some (.inr false))
       (obind (m_ref30_Handles N (z1.2.2, z2.2.2)) fun z3 =>
        cond (!z3)
         (some (.inr false))
         ((l_ref30_Same_1 N m ((IntKind.wrap .i64 (i + (1 : Int))), (a, (a2, (a3, (b, (b2, b3)))))))))))
   (some (.inl ())) := by kernel_rfl
theorem m_ref30_Same_eq (N : Nat) (a : (List Int)) (a2 : (List Int)) (a3 : (List (Int × (Int × (List (Int × Int)))))) (b : (List Int)) (b2 : (List Int)) (b3 : (List (Int × (Int × (List (Int × Int)))))) : m_ref30_Same (N + 1) (a, a2, a3, b, b2, b3) = obind (m_ref02_Same N (a, (a2, (b, b2)))) fun z1 =>
  cond (!z1)
   (some false)
   (cond (!(decide ((((List.length a3) : Nat) : Int) = (((List.length b3) : Nat) : Int))))
     (some false)
     (obind (l_ref30_Same_1 N N ((0 : Int), (a, (a2, (a3, (b, (b2, b3))))))) fun z2 =>
      (match z2 with
      | .inl zy3 => some true
      | .inr zy4 => some zy4))) := by kernel_rfl
theorem c_ref30_Same_ok (N : Nat) : (c_ref30_Same N).ok Try.prog := exF_ok (T := T) (CT := ct_ref30_Same) (N := N) (fun M => ⟨tOk, (ctAll_cons (c_ref02_Same_ok M) (ctAll_cons (c_ref30_Handles_ok M) ctAll_nil)), mixed, bwAll⟩) Try.func17 (by kernel_rfl) (by kernel_rfl) p_ref30_Same [.ag [.h (.sl (.i .i64)), .h (.sl (.i .i64)), .h (.sl (.pr (.i .i64) (.pr (.i .i64) (.sl (.pr (.i .i64) (.i .i64))))))], .ag [.h (.sl (.i .i64)), .h (.sl (.i .i64)), .h (.sl (.pr (.i .i64) (.pr (.i .i64) (.sl (.pr (.i .i64) (.i .i64))))))]] [] [(.sl (.i .i64)), (.sl (.i .i64)), (.sl (.pr (.i .i64) (.pr (.i .i64) (.sl (.pr (.i .i64) (.i .i64)))))), (.sl (.i .i64)), (.sl (.i .i64)), (.sl (.pr (.i .i64) (.pr (.i .i64) (.sl (.pr (.i .i64) (.i .i64))))))] r_ref30_Same false true [] (by kernel_rfl) (fun y => by kernel_rfl) (fun _ => ⟨rfl, rfl⟩) (fun y => by kernel_rfl) (m_ref30_Same N) (fun x => by kernel_rfl)
noncomputable def ct_law30_StoreAnswers (N : Nat) : List Ctr := [c_law30_alive N, c_ref30_Great N, c_ref30_Copy N, c_store_Read N, c_ref30_Read N, c_store_Give N, c_ref30_Give N, c_ref14_Same N, c_ref30_Handles N, c_ref30_Same N, c_store_Right N, c_ref30_Right N]
def p_law30_StoreAnswers : Pl := .z
def r_law30_StoreAnswers : PS := ⟨[(4, .h .b)], [], [.b]⟩
noncomputable def m_law30_StoreAnswers (N : Nat) : (List Int) × (List Int) × (List (Int × (Int × (List (Int × Int))))) × Int × Int → Option (Bool) := exF T ct_law30_StoreAnswers N (bodyOf Try.f3) 83 p_law30_StoreAnswers [.ag [.h (.sl (.i .i64)), .h (.sl (.i .i64)), .h (.sl (.pr (.i .i64) (.pr (.i .i64) (.sl (.pr (.i .i64) (.i .i64))))))], .ag [.h (.i .i64), .h (.i .i64)]] [] [(.sl (.i .i64)), (.sl (.i .i64)), (.sl (.pr (.i .i64) (.pr (.i .i64) (.sl (.pr (.i .i64) (.i .i64)))))), (.i .i64), (.i .i64)] r_law30_StoreAnswers
noncomputable def c_law30_StoreAnswers (N : Nat) : Ctr := ⟨3, [.ag [.h (.sl (.i .i64)), .h (.sl (.i .i64)), .h (.sl (.pr (.i .i64) (.pr (.i .i64) (.sl (.pr (.i .i64) (.i .i64))))))], .ag [.h (.i .i64), .h (.i .i64)]], [], [(.sl (.i .i64)), (.sl (.i .i64)), (.sl (.pr (.i .i64) (.pr (.i .i64) (.sl (.pr (.i .i64) (.i .i64)))))), (.i .i64), (.i .i64)], Tup r_law30_StoreAnswers.c, m_law30_StoreAnswers N, fun y _ k => k (resG T (mkPS 83 r_law30_StoreAnswers y) Try.f3.results.toList) (keepH' [] (mkPS 83 r_law30_StoreAnswers y).h), false, true⟩
theorem m_law30_StoreAnswers_eq (N : Nat) (s : (List Int)) (s2 : (List Int)) (s3 : (List (Int × (Int × (List (Int × Int)))))) (h : Int) (h2 : Int) : m_law30_StoreAnswers (N + 1) (s, s2, s3, h, h2) = obind (m_law30_alive N ()) fun z1 =>
  cond (!z1)
   (some false)
   (obind (m_ref30_Great N (s, (s2, s3))) fun z2 =>
    cond z2
     (some true)
     (obind (m_ref30_Copy N (s, (s2, s3))) fun z3 =>
      obind (m_store_Read N (z3.1, (z3.2.1, (z3.2.2, (h, h2))))) fun z4 =>
      obind (m_ref30_Read N (s, (s2, (s3, (h, h2))))) fun z5 =>
      obind (m_store_Give N (z3.1, (z3.2.1, (z3.2.2, (h, h2))))) fun z6 =>
      obind (m_ref30_Give N (s, (s2, (s3, (h, h2))))) fun z7 =>
      obind (m_ref14_Same N (z4.2.1, (z4.2.2.1, (z4.2.2.2.1, (z5.2.1, (z5.2.2.1, z5.2.2.2.1)))))) fun z8 =>
      cond z8
       (obind (m_ref30_Handles N (z4.2.2.2.2, z5.2.2.2.2)) fun z9 =>
        cond z9
         (cond (decide (z4.1 = z5.1))
           (obind (m_ref30_Same N (z6.2.1, (z6.2.2.1, (z6.2.2.2, (z7.2.1, (z7.2.2.1, z7.2.2.2)))))) fun z10 =>
            cond z10
             (cond (decide (z6.1 = z7.1))
               (obind (m_store_Right N (s, (s2, s3))) fun z11 =>
                obind (m_ref30_Right N (s, (s2, s3))) fun z12 =>
                cond (z11 == z12)
                 (obind (m_ref30_Same N (z3.1, (z3.2.1, (z3.2.2, (s, (s2, s3)))))) fun z13 =>
                  some z13)
                 (some false))
               (some false))
             (some false))
           (some false))
         (some false))
       (some false))) := by kernel_rfl
theorem c_law30_StoreAnswers_ok (N : Nat) : (c_law30_StoreAnswers N).ok Try.prog := exF_ok (T := T) (CT := ct_law30_StoreAnswers) (N := N) (fun M => ⟨tOk, (ctAll_cons (c_law30_alive_ok M) (ctAll_cons (c_ref30_Great_ok M) (ctAll_cons (c_ref30_Copy_ok M) (ctAll_cons (c_store_Read_ok M) (ctAll_cons (c_ref30_Read_ok M) (ctAll_cons (c_store_Give_ok M) (ctAll_cons (c_ref30_Give_ok M) (ctAll_cons (c_ref14_Same_ok M) (ctAll_cons (c_ref30_Handles_ok M) (ctAll_cons (c_ref30_Same_ok M) (ctAll_cons (c_store_Right_ok M) (ctAll_cons (c_ref30_Right_ok M) ctAll_nil)))))))))))), mixed, bwAll⟩) Try.func3 (by kernel_rfl) (by kernel_rfl) p_law30_StoreAnswers [.ag [.h (.sl (.i .i64)), .h (.sl (.i .i64)), .h (.sl (.pr (.i .i64) (.pr (.i .i64) (.sl (.pr (.i .i64) (.i .i64))))))], .ag [.h (.i .i64), .h (.i .i64)]] [] [(.sl (.i .i64)), (.sl (.i .i64)), (.sl (.pr (.i .i64) (.pr (.i .i64) (.sl (.pr (.i .i64) (.i .i64)))))), (.i .i64), (.i .i64)] r_law30_StoreAnswers false true [] (by kernel_rfl) (fun y => by kernel_rfl) (fun _ => ⟨rfl, rfl⟩) (fun y => by kernel_rfl) (m_law30_StoreAnswers N) (fun x => by kernel_rfl)
end Go.Proofs.Ytdahghkmejnlgaa
end
section
set_option linter.unusedVariables false
namespace Go.Proofs.Ytdahghkmejnlgaa
open Go Go.RowKit
noncomputable section
/-- hands a value on, reckoned first -/
structure Fc (α : Type) where
  f : {R : Type} → α → (α → R) → R
  ok : ∀ {R : Type} (x : α) (k : α → R), f x k = k x
def fN {R : Type} (n : Nat) (k : Nat → R) : R := Nat.rec (motive := fun _ => R) (k 0) (fun m _ => k (Nat.succ m)) n
theorem fN_ok {R : Type} (n : Nat) (k : Nat → R) : fN n k = k n := by cases n <;> rfl
def fcI : Fc Int := ⟨fun {R} x k => Int.rec (motive := fun _ => R) (fun n => fN n fun m => k (Int.ofNat m)) (fun n => fN n fun m => k (Int.negSucc m)) x, fun x k => by
  cases x with
  | ofNat n => exact fN_ok n _
  | negSucc n => exact fN_ok n _⟩
def fcU : Fc Unit := ⟨fun x k => k (), fun x k => rfl⟩
def fL {α : Type} (a : Fc α) {R : Type} (xs : List α) : (List α → R) → R := List.rec (motive := fun _ => (List α → R) → R) (fun k => k []) (fun x _ ih k => a.f x fun y => ih fun ys => k (y :: ys)) xs
theorem fL_ok {α : Type} (a : Fc α) {R : Type} : ∀ (xs : List α) (k : List α → R), fL a xs k = k xs
  | [], k => rfl
  | x :: xs, k => by
    show a.f x (fun y => fL a xs fun ys => k (y :: ys)) = _
    rw [a.ok, fL_ok a xs]
def fcL {α : Type} (a : Fc α) : Fc (List α) := ⟨fun xs k => fL a xs k, fun xs k => fL_ok a xs k⟩
def fcP {α β : Type} (a : Fc α) (b : Fc β) : Fc (α × β) := ⟨fun {R} p k => Prod.rec (motive := fun _ => R) (fun x y => a.f x fun x' => b.f y fun y' => k (x', y')) p, fun p k => by
  obtain ⟨x, y⟩ := p
  show a.f x (fun x' => b.f y fun y' => k (x', y')) = _
  rw [a.ok, b.ok]⟩
def demD {R : Type} [DecidableEq R] (f : Bool → Option R) : Option R := match f true, f false with
  | some a, some b => if a = b then some a else none
  | _, _ => none
theorem dem_D {R : Type} [DecidableEq R] (f : Bool → Option R) : dem f = demD f := by
  rw [dem_eq]
  unfold demG demD
  cases f true with
  | none => rfl
  | some a =>
    cases f false with
    | none => rfl
    | some b =>
      simp only
      by_cases h : a = b
      · rw [if_pos h, if_pos h]
      · rw [if_neg h, if_neg h]
end
end Go.Proofs.Ytdahghkmejnlgaa
end
