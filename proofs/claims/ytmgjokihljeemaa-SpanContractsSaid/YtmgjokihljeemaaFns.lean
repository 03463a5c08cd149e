/- The functions of this seat, reckoned: of each what it computes, as a tree, and its contract (printed by wip/tool/plan.sh). -/
import Derived.Test.YtmgjokihljeemaaTys
set_option linter.unusedVariables false
set_option maxRecDepth 100000
namespace Go.Proofs.Ytmgjokihljeemaa
open Go Go.RowKit
/-! archipelago/archipelagoref18.Make -/
noncomputable def ct_ref18_Make (N : Nat) : List Ctr := []
def i_ref18_Make_1 : PS := ⟨[(0, .h (.i .i64)), (2, .k (.pt 900 0)), (4, .k (.pt 901 0)), (5, .h (.i .i64))], [(900, .box 24 [.h (.i .i64), .k .nil]), (901, .box 24 [.h (.i .i64), .k (.ow 902)]), (902, .arr 34 (.sl (.i .i64)) true)], [(.i .i64), (.i .i64), (.i .i64), (.i .i64), (.sl (.sl (.i .i64)))]⟩
def o_ref18_Make_1 : List (Exit × PS) := [((.exit 0), ⟨[(2, .k (.pt 900 0)), (4, .k (.pt 901 0))], [(900, .box 24 [.h (.i .i64), .k .nil]), (901, .box 24 [.h (.i .i64), .k (.ow 902)]), (902, .arr 34 (.sl (.i .i64)) true)], [(.i .i64), (.i .i64), (.sl (.sl (.i .i64)))]⟩)]
def p_ref18_Make_1 : Pl := .z
noncomputable def l_ref18_Make_1 (N : Nat) : Nat → Int × Int × Int × Int × (List (List Int)) → Option (Int × Int × (List (List Int))) := loopF (exC T (ct_ref18_Make N) N (codeAt [1, 1, 1, 0, 1, 0, 0] (bodyOf Try.f22))) 28 i_ref18_Make_1 o_ref18_Make_1 p_ref18_Make_1
def p_ref18_Make : Pl := (.n .z (.n .z (.n .z (.n (.n .z (.n (.loop i_ref18_Make_1 o_ref18_Make_1 p_ref18_Make_1) .z)) .z))))
def r_ref18_Make : PS := ⟨[(2, .k (.pt 900 0)), (3, .h (.i .i64))], [(900, .box 24 [.h (.i .i64), .h (.sl (.sl (.i .i64)))])], [(.i .i64), (.i .i64), (.sl (.sl (.i .i64)))]⟩
noncomputable def m_ref18_Make (N : Nat) : Int → Option (Int × Int × (List (List Int))) := exF T ct_ref18_Make N (bodyOf Try.f22) 28 p_ref18_Make [.h (.i .i64)] [] [(.i .i64)] r_ref18_Make
noncomputable def c_ref18_Make (N : Nat) : Ctr := ⟨22, [.h (.i .i64)], [], [(.i .i64)], Tup r_ref18_Make.c, m_ref18_Make N, fun y _ k => k (resG T (mkPS 28 r_ref18_Make y) Try.f22.results.toList) (keepH' [] (mkPS 28 r_ref18_Make y).h), false, false⟩
theorem l_ref18_Make_1_z (N : Nat) (v : Int × Int × Int × Int × (List (List Int))) : l_ref18_Make_1 N 0 v = none := by kernel_rfl
theorem l_ref18_Make_1_s (N m : Nat) (n : Int) (v : Int) (v2 : Int) (f : Int) (v902 : (List (List Int))) : l_ref18_Make_1 N (m + 1) (n, v, v2, f, v902) = cond (decide (v < n))
   (obind (appI (24 : Nat) v902 [[v]]) fun z1 =>
    (l_ref18_Make_1 N m (n, ((IntKind.wrap .i64 (v + (1 : Int))), (v2, (f, z1))))))
   (some (v2, (f, v902))) := by kernel_rfl
theorem m_ref18_Make_eq (N : Nat) (n : Int) : m_ref18_Make (N + 1) (n) = cond (decide (n < (1 : Int)))
   (some ((1 : Int), ((0 : Int), [])))
   (cond (decide ((64 : Int) < n))
     (some ((1 : Int), ((0 : Int), [])))
     (obind (l_ref18_Make_1 N N (n, ((0 : Int), ((0 : Int), (n, []))))) fun z1 =>
      some ((0 : Int), (z1.2.1, z1.2.2)))) := by kernel_rfl
theorem c_ref18_Make_ok (N : Nat) : (c_ref18_Make N).ok Try.prog := exF_ok (T := T) (CT := ct_ref18_Make) (N := N) (fun M => ⟨tOk, ctAll_nil, mixed⟩) Try.func22 (by kernel_rfl) (by kernel_rfl) p_ref18_Make [.h (.i .i64)] [] [(.i .i64)] r_ref18_Make false false [] (by kernel_rfl) (fun y => by kernel_rfl) (fun _ => ⟨rfl, rfl⟩) (fun y => by kernel_rfl) (m_ref18_Make N) (fun x => by kernel_rfl)
/-! archipelago/archipelagoref13.Place -/
noncomputable def ct_ref13_Place (N : Nat) : List Ctr := []
def i_ref13_Place_1 : PS := ⟨[(0, .h (.sl (.i .i64))), (1, .h (.i .i64)), (5, .h (.i .i64))], [], [(.sl (.i .i64)), (.i .i64), (.i .i64)]⟩
def o_ref13_Place_1 : List (Exit × PS) := [((.exit 0), ⟨[], [], []⟩), (.ret, ⟨[(4, .h (.i .i64))], [], [(.i .i64)]⟩)]
def p_ref13_Place_1 : Pl := .z
noncomputable def l_ref13_Place_1 (N : Nat) : Nat → (List Int) × Int × Int → Option ((Unit) ⊕ (Int)) := loopF (exC T (ct_ref13_Place N) N (codeAt [1, 0, 1, 0, 0] (bodyOf Try.f61))) 19 i_ref13_Place_1 o_ref13_Place_1 p_ref13_Place_1
def p_ref13_Place : Pl := (.n .z (.n (.n .z (.n (.loop i_ref13_Place_1 o_ref13_Place_1 p_ref13_Place_1) .z)) .z))
def r_ref13_Place : PS := ⟨[(4, .h (.i .i64))], [], [(.i .i64)]⟩
noncomputable def m_ref13_Place (N : Nat) : (List Int) × Int → Option (Int) := exF T ct_ref13_Place N (bodyOf Try.f61) 19 p_ref13_Place [.h (.sl (.i .i64)), .h (.i .i64)] [] [(.sl (.i .i64)), (.i .i64)] r_ref13_Place
noncomputable def c_ref13_Place (N : Nat) : Ctr := ⟨61, [.h (.sl (.i .i64)), .h (.i .i64)], [], [(.sl (.i .i64)), (.i .i64)], Tup r_ref13_Place.c, m_ref13_Place N, fun y _ k => k (resG T (mkPS 19 r_ref13_Place y) Try.f61.results.toList) (keepH' [] (mkPS 19 r_ref13_Place y).h), false, true⟩
theorem l_ref13_Place_1_z (N : Nat) (v : (List Int) × Int × Int) : l_ref13_Place_1 N 0 v = none := by kernel_rfl
theorem l_ref13_Place_1_s (N m : Nat) (l : (List Int)) (token : Int) (i : Int) : l_ref13_Place_1 N (m + 1) (l, token, i) = cond (decide (i < (((List.length l) : Nat) : Int)))
   (obind (nthI l i) fun z1 =>
    cond (decide (z1 = token))
     (some (.inr i))
     ((l_ref13_Place_1 N m (l, (token, (IntKind.wrap .i64 (i + (1 : Int))))))))
   (some (.inl ())) := by kernel_rfl
theorem m_ref13_Place_eq (N : Nat) (l : (List Int)) (token : Int) : m_ref13_Place (N + 1) (l, token) = obind (l_ref13_Place_1 N N (l, (token, (0 : Int)))) fun z1 =>
  (match z1 with
  | .inl zy2 => some (-(1 : Int))
  | .inr zy3 => some zy3) := by kernel_rfl
theorem c_ref13_Place_ok (N : Nat) : (c_ref13_Place N).ok Try.prog := exF_ok (T := T) (CT := ct_ref13_Place) (N := N) (fun M => ⟨tOk, ctAll_nil, mixed⟩) Try.func61 (by kernel_rfl) (by kernel_rfl) p_ref13_Place [.h (.sl (.i .i64)), .h (.i .i64)] [] [(.sl (.i .i64)), (.i .i64)] r_ref13_Place false true [] (by kernel_rfl) (fun y => by kernel_rfl) (fun _ => ⟨rfl, rfl⟩) (fun y => by kernel_rfl) (m_ref13_Place N) (fun x => by kernel_rfl)
/-! archipelago/archipelagoref13.Right -/
noncomputable def ct_ref13_Right (N : Nat) : List Ctr := [c_ref13_Place N]
def i_ref13_Right_1 : PS := ⟨[(0, .h (.sl (.i .i64))), (3, .h (.i .i64))], [], [(.sl (.i .i64)), (.i .i64)]⟩
def o_ref13_Right_1 : List (Exit × PS) := [((.exit 0), ⟨[], [], []⟩), (.ret, ⟨[(2, .h .b)], [], [.b]⟩)]
def p_ref13_Right_1 : Pl := .z
noncomputable def l_ref13_Right_1 (N : Nat) : Nat → (List Int) × Int → Option ((Unit) ⊕ (Bool)) := loopF (exC T (ct_ref13_Right N) N (codeAt [1, 1, 0, 1, 0, 0] (bodyOf Try.f62))) 36 i_ref13_Right_1 o_ref13_Right_1 p_ref13_Right_1
def p_ref13_Right : Pl := (.n .z (.n .z (.n (.n .z (.n (.loop i_ref13_Right_1 o_ref13_Right_1 p_ref13_Right_1) .z)) .z)))
def r_ref13_Right : PS := ⟨[(2, .h .b)], [], [.b]⟩
noncomputable def m_ref13_Right (N : Nat) : (List Int) → Option (Bool) := exF T ct_ref13_Right N (bodyOf Try.f62) 36 p_ref13_Right [.h (.sl (.i .i64))] [] [(.sl (.i .i64))] r_ref13_Right
noncomputable def c_ref13_Right (N : Nat) : Ctr := ⟨62, [.h (.sl (.i .i64))], [], [(.sl (.i .i64))], Tup r_ref13_Right.c, m_ref13_Right N, fun y _ k => k (resG T (mkPS 36 r_ref13_Right y) Try.f62.results.toList) (keepH' [] (mkPS 36 r_ref13_Right y).h), false, true⟩
theorem l_ref13_Right_1_z (N : Nat) (v : (List Int) × Int) : l_ref13_Right_1 N 0 v = none := by kernel_rfl
theorem l_ref13_Right_1_s (N m : Nat) (l : (List Int)) (i : Int) : l_ref13_Right_1 N (m + 1) (l, i) = cond (decide (i < (((List.length l) : Nat) : Int)))
   (obind (nthI l i) fun z1 =>
    cond (decide (z1 < (0 : Int)))
     (some (.inr false))
     (obind (nthI l i) fun z2 =>
      cond (decide ((10000 : Int) < z2))
       (some (.inr false))
       (obind (subI l (0 : Int) i) fun z3 =>
        obind (nthI l i) fun z4 =>
        obind (m_ref13_Place N (z3, z4)) fun z5 =>
        cond (decide ((0 : Int) ≤ z5))
         (some (.inr false))
         ((l_ref13_Right_1 N m (l, (IntKind.wrap .i64 (i + (1 : Int)))))))))
   (some (.inl ())) := by kernel_rfl
theorem m_ref13_Right_eq (N : Nat) (l : (List Int)) : m_ref13_Right (N + 1) (l) = cond (decide ((1000 : Int) < (((List.length l) : Nat) : Int)))
   (some false)
   (obind (l_ref13_Right_1 N N (l, (0 : Int))) fun z1 =>
    (match z1 with
    | .inl zy2 => some true
    | .inr zy3 => some zy3)) := by kernel_rfl
theorem c_ref13_Right_ok (N : Nat) : (c_ref13_Right N).ok Try.prog := exF_ok (T := T) (CT := ct_ref13_Right) (N := N) (fun M => ⟨tOk, (ctAll_cons (c_ref13_Place_ok M) ctAll_nil), mixed⟩) Try.func62 (by kernel_rfl) (by kernel_rfl) p_ref13_Right [.h (.sl (.i .i64))] [] [(.sl (.i .i64))] r_ref13_Right false true [] (by kernel_rfl) (fun y => by kernel_rfl) (fun _ => ⟨rfl, rfl⟩) (fun y => by kernel_rfl) (m_ref13_Right N) (fun x => by kernel_rfl)
/-! archipelago/archipelagoref18.in -/
noncomputable def ct_ref18_in (N : Nat) : List Ctr := []
def p_ref18_in : Pl := .z
def r_ref18_in : PS := ⟨[(4, .h .b)], [], [.b]⟩
noncomputable def m_ref18_in (N : Nat) : Int × Int → Option (Bool) := exF T ct_ref18_in N (bodyOf Try.f46) 20 p_ref18_in [.h (.i .i64), .h (.i .i64)] [] [(.i .i64), (.i .i64)] r_ref18_in
noncomputable def c_ref18_in (N : Nat) : Ctr := ⟨46, [.h (.i .i64), .h (.i .i64)], [], [(.i .i64), (.i .i64)], Tup r_ref18_in.c, m_ref18_in N, fun y _ k => k (resG T (mkPS 20 r_ref18_in y) Try.f46.results.toList) (keepH' [] (mkPS 20 r_ref18_in y).h), false, true⟩
theorem m_ref18_in_eq (N : Nat) (n : Int) (v : Int) : m_ref18_in (N + 1) (n, v) = cond (decide ((1 : Int) ≤ n))
   (cond (decide (n ≤ (64 : Int)))
     (cond (decide ((0 : Int) ≤ v))
       (some (decide (v < n)))
       (some false))
     (some false))
   (some false) := by kernel_rfl
theorem c_ref18_in_ok (N : Nat) : (c_ref18_in N).ok Try.prog := exF_ok (T := T) (CT := ct_ref18_in) (N := N) (fun M => ⟨tOk, ctAll_nil, mixed⟩) Try.func46 (by kernel_rfl) (by kernel_rfl) p_ref18_in [.h (.i .i64), .h (.i .i64)] [] [(.i .i64), (.i .i64)] r_ref18_in false true [] (by kernel_rfl) (fun y => by kernel_rfl) (fun _ => ⟨rfl, rfl⟩) (fun y => by kernel_rfl) (m_ref18_in N) (fun x => by kernel_rfl)
/-! archipelago/archipelagoref18.Token -/
noncomputable def ct_ref18_Token (N : Nat) : List Ctr := [c_ref18_in N]
def p_ref18_Token : Pl := .z
def r_ref18_Token : PS := ⟨[(4, .h (.i .i64)), (5, .h (.i .i64)), (6, .h .b), (7, .h .b)], [], [(.i .i64), (.i .i64), .b, .b]⟩
noncomputable def m_ref18_Token (N : Nat) : Int × Int → Option (Int × Int × Bool × Bool) := exF T ct_ref18_Token N (bodyOf Try.f70) 49 p_ref18_Token [.h (.i .i64), .h (.i .i64)] [] [(.i .i64), (.i .i64)] r_ref18_Token
noncomputable def c_ref18_Token (N : Nat) : Ctr := ⟨70, [.h (.i .i64), .h (.i .i64)], [], [(.i .i64), (.i .i64)], Tup r_ref18_Token.c, m_ref18_Token N, fun y _ k => k (resG T (mkPS 49 r_ref18_Token y) Try.f70.results.toList) (keepH' [] (mkPS 49 r_ref18_Token y).h), false, true⟩
theorem m_ref18_Token_eq (N : Nat) (n : Int) (token : Int) : m_ref18_Token (N + 1) (n, token) = obind (m_ref18_in N (n, token)) fun z1 =>
  cond z1
   (some (token, ((0 : Int), (false, true))))
   (cond (decide (n < (1 : Int)))
     (some ((0 : Int), ((0 : Int), (false, false))))
     (cond (decide ((64 : Int) < n))
       (some ((0 : Int), ((0 : Int), (false, false))))
       (cond (decide (token < n))
         (some ((0 : Int), ((0 : Int), (false, false))))
         (cond (decide ((IntKind.wrap .i64 (n + (IntKind.wrap .i64 (n * n)))) ≤ token))
           (some ((0 : Int), ((0 : Int), (false, false))))
           (obind (quoI (IntKind.wrap .i64 (token - n)) n) fun z2 =>
            obind (remI (IntKind.wrap .i64 (token - n)) n) fun z3 =>
            cond (decide ((IntKind.wrap .i64 z2) = z3))
             (some ((0 : Int), ((0 : Int), (false, false))))
             (some ((IntKind.wrap .i64 z2), (z3, (true, true))))))))) := by kernel_rfl
theorem c_ref18_Token_ok (N : Nat) : (c_ref18_Token N).ok Try.prog := exF_ok (T := T) (CT := ct_ref18_Token) (N := N) (fun M => ⟨tOk, (ctAll_cons (c_ref18_in_ok M) ctAll_nil), mixed⟩) Try.func70 (by kernel_rfl) (by kernel_rfl) p_ref18_Token [.h (.i .i64), .h (.i .i64)] [] [(.i .i64), (.i .i64)] r_ref18_Token false true [] (by kernel_rfl) (fun y => by kernel_rfl) (fun _ => ⟨rfl, rfl⟩) (fun y => by kernel_rfl) (m_ref18_Token N) (fun x => by kernel_rfl)
/-! archipelago/archipelagoref18.Arc -/
noncomputable def ct_ref18_Arc (N : Nat) : List Ctr := [c_ref18_in N]
def p_ref18_Arc : Pl := .z
def r_ref18_Arc : PS := ⟨[(6, .h (.i .i64))], [], [(.i .i64)]⟩
noncomputable def m_ref18_Arc (N : Nat) : Int × Int × Int → Option (Int) := exF T ct_ref18_Arc N (bodyOf Try.f49) 29 p_ref18_Arc [.h (.i .i64), .h (.i .i64), .h (.i .i64)] [] [(.i .i64), (.i .i64), (.i .i64)] r_ref18_Arc
noncomputable def c_ref18_Arc (N : Nat) : Ctr := ⟨49, [.h (.i .i64), .h (.i .i64), .h (.i .i64)], [], [(.i .i64), (.i .i64), (.i .i64)], Tup r_ref18_Arc.c, m_ref18_Arc N, fun y _ k => k (resG T (mkPS 29 r_ref18_Arc y) Try.f49.results.toList) (keepH' [] (mkPS 29 r_ref18_Arc y).h), false, true⟩
theorem m_ref18_Arc_eq (N : Nat) (n : Int) (u : Int) (v : Int) : m_ref18_Arc (N + 1) (n, u, v) = obind (m_ref18_in N (n, u)) fun z1 =>
  cond (!z1)
   (some (-(1 : Int)))
   (obind (m_ref18_in N (n, v)) fun z2 =>
    cond (!z2)
     (some (-(1 : Int)))
     (cond (decide (u = v))
       (some (-(1 : Int)))
       (some (IntKind.wrap .i64 ((IntKind.wrap .i64 (n + (IntKind.wrap .i64 (u * n)))) + v))))) := by kernel_rfl
theorem c_ref18_Arc_ok (N : Nat) : (c_ref18_Arc N).ok Try.prog := exF_ok (T := T) (CT := ct_ref18_Arc) (N := N) (fun M => ⟨tOk, (ctAll_cons (c_ref18_in_ok M) ctAll_nil), mixed⟩) Try.func49 (by kernel_rfl) (by kernel_rfl) p_ref18_Arc [.h (.i .i64), .h (.i .i64), .h (.i .i64)] [] [(.i .i64), (.i .i64), (.i .i64)] r_ref18_Arc false true [] (by kernel_rfl) (fun y => by kernel_rfl) (fun _ => ⟨rfl, rfl⟩) (fun y => by kernel_rfl) (m_ref18_Arc N) (fun x => by kernel_rfl)
/-! archipelago/archipelagoref18.stands -/
noncomputable def ct_ref18_stands (N : Nat) : List Ctr := [c_ref18_Token N]
def p_ref18_stands : Pl := .z
def r_ref18_stands : PS := ⟨[(6, .h .b)], [], [.b]⟩
noncomputable def m_ref18_stands (N : Nat) : Int × Int × Int → Option (Bool) := exF T ct_ref18_stands N (bodyOf Try.f71) 37 p_ref18_stands [.h (.i .i64), .h (.i .i64), .h (.i .i64)] [] [(.i .i64), (.i .i64), (.i .i64)] r_ref18_stands
noncomputable def c_ref18_stands (N : Nat) : Ctr := ⟨71, [.h (.i .i64), .h (.i .i64), .h (.i .i64)], [], [(.i .i64), (.i .i64), (.i .i64)], Tup r_ref18_stands.c, m_ref18_stands N, fun y _ k => k (resG T (mkPS 37 r_ref18_stands y) Try.f71.results.toList) (keepH' [] (mkPS 37 r_ref18_stands y).h), false, true⟩
theorem m_ref18_stands_eq (N : Nat) (n : Int) (token : Int) (u : Int) : m_ref18_stands (N + 1) (n, token, u) = obind (m_ref18_Token N (n, token)) fun z1 =>
  cond z1.2.2.2
   (cond (!z1.2.2.1)
     (cond (decide (z1.1 = u))
       (some true)
       (cond z1.2.2.1
         (some (decide (z1.2.1 = u)))
         (some false)))
     (cond z1.2.2.1
       (some (decide (z1.2.1 = u)))
       (some false)))
   (some false) := by kernel_rfl
theorem c_ref18_stands_ok (N : Nat) : (c_ref18_stands N).ok Try.prog := exF_ok (T := T) (CT := ct_ref18_stands) (N := N) (fun M => ⟨tOk, (ctAll_cons (c_ref18_Token_ok M) ctAll_nil), mixed⟩) Try.func71 (by kernel_rfl) (by kernel_rfl) p_ref18_stands [.h (.i .i64), .h (.i .i64), .h (.i .i64)] [] [(.i .i64), (.i .i64), (.i .i64)] r_ref18_stands false true [] (by kernel_rfl) (fun y => by kernel_rfl) (fun _ => ⟨rfl, rfl⟩) (fun y => by kernel_rfl) (m_ref18_stands N) (fun x => by kernel_rfl)
/-! archipelago/archipelagoref18.tree -/
noncomputable def ct_ref18_tree (N : Nat) : List Ctr := [c_ref18_Token N, c_ref18_Arc N, c_ref18_stands N, c_ref18_in N]
def i_ref18_tree_3 : PS := ⟨[(0, .h (.i .i64)), (1, .k (.ow 900)), (6, .h (.i .i64)), (14, .k (.ow 901)), (15, .h (.i .i64))], [(900, .arr 3 (.i .i64) true), (901, .arr 3 (.i .i64) true)], [(.i .i64), (.i .i64), (.i .i64), (.sl (.i .i64)), (.sl (.i .i64))]⟩
def o_ref18_tree_3 : List (Exit × PS) := [((.exit 4), ⟨[(0, .h (.i .i64)), (6, .h (.i .i64)), (14, .k (.ow 900))], [(900, .arr 3 (.i .i64) true)], [(.i .i64), (.i .i64), (.sl (.i .i64))]⟩)]
def p_ref18_tree_3 : Pl := .z
noncomputable def l_ref18_tree_3 (N : Nat) : Nat → Int × Int × Int × (List Int) × (List Int) → Option (Int × Int × (List Int)) := loopF (exC T (ct_ref18_tree N) N (codeAt [1, 1, 0, 0, 0, 1, 0, 1, 0, 1, 0, 0, 1, 0, 0, 1, 1, 1, 0, 1, 0, 1, 0, 0] (bodyOf Try.f63))) 129 i_ref18_tree_3 o_ref18_tree_3 p_ref18_tree_3
def i_ref18_tree_2 : PS := ⟨[(0, .h (.i .i64)), (1, .k (.ow 900)), (5, .h .b), (6, .h (.i .i64))], [(900, .arr 3 (.i .i64) true)], [(.i .i64), .b, (.i .i64), (.sl (.i .i64))]⟩
def o_ref18_tree_2 : List (Exit × PS) := [((.exit 2), ⟨[(0, .h (.i .i64)), (1, .k (.ow 900)), (5, .h .b)], [(900, .arr 3 (.i .i64) true)], [(.i .i64), .b, (.sl (.i .i64))]⟩)]
def p_ref18_tree_2 : Pl := (.n .z (.n (.n (.n .z (.n .z (.n .z (.n (.n .z (.n (.n .z (.n (.loop i_ref18_tree_3 o_ref18_tree_3 p_ref18_tree_3) .z)) .z)) .z)))) .z) .z))
noncomputable def l_ref18_tree_2 (N : Nat) : Nat → Int × Bool × Int × (List Int) → Option (Int × Bool × (List Int)) := loopF (exC T (ct_ref18_tree N) N (codeAt [1, 1, 0, 0, 0, 1, 0, 1, 0, 1, 0, 0] (bodyOf Try.f63))) 129 i_ref18_tree_2 o_ref18_tree_2 p_ref18_tree_2
def i_ref18_tree_1 : PS := ⟨[(0, .h (.i .i64)), (1, .k (.ow 900))], [(900, .arr 3 (.i .i64) true)], [(.i .i64), (.sl (.i .i64))]⟩
def o_ref18_tree_1 : List (Exit × PS) := [((.exit 0), ⟨[(0, .h (.i .i64)), (1, .k (.ow 900))], [(900, .arr 3 (.i .i64) true)], [(.i .i64), (.sl (.i .i64))]⟩), (.ret, ⟨[(4, .h .b)], [], [.b]⟩)]
def p_ref18_tree_1 : Pl := (.n .z (.n (.n .z (.n (.n .z (.n (.loop i_ref18_tree_2 o_ref18_tree_2 p_ref18_tree_2) .z)) .z)) .z))
noncomputable def l_ref18_tree_1 (N : Nat) : Nat → Int × (List Int) → Option ((Int × (List Int)) ⊕ (Bool)) := loopF (exC T (ct_ref18_tree N) N (codeAt [1, 1, 0, 0, 0] (bodyOf Try.f63))) 129 i_ref18_tree_1 o_ref18_tree_1 p_ref18_tree_1
def p_ref18_tree : Pl := (.n .z (.n .z (.n (.n (.loop i_ref18_tree_1 o_ref18_tree_1 p_ref18_tree_1) .z) .z)))
def r_ref18_tree : PS := ⟨[(4, .h .b)], [], [.b]⟩
noncomputable def m_ref18_tree (N : Nat) : Int × (List Int) → Option (Bool) := exF T ct_ref18_tree N (bodyOf Try.f63) 129 p_ref18_tree [.h (.i .i64), .h (.sl (.i .i64))] [] [(.i .i64), (.sl (.i .i64))] r_ref18_tree
noncomputable def c_ref18_tree (N : Nat) : Ctr := ⟨63, [.h (.i .i64), .h (.sl (.i .i64))], [], [(.i .i64), (.sl (.i .i64))], Tup r_ref18_tree.c, m_ref18_tree N, fun y _ k => k (resG T (mkPS 129 r_ref18_tree y) Try.f63.results.toList) (keepH' [] (mkPS 129 r_ref18_tree y).h), false, true⟩
theorem l_ref18_tree_3_z (N : Nat) (v : Int × Int × Int × (List Int) × (List Int)) : l_ref18_tree_3 N 0 v = none := by kernel_rfl
theorem l_ref18_tree_3_s (N m : Nat) (n : Int) (i : Int) (k : Int) (l : (List Int)) (v14 : (List Int)) : l_ref18_tree_3 N (m + 1) (n, i, k, l, v14) = cond (decide (k < (((List.length l) : Nat) : Int)))
   (obind (remI (IntKind.wrap .i64 (i + k)) (((List.length l) : Nat) : Int)) fun z1 =>
    obind (nthI l z1) fun z2 =>
    obind (nthI l z1) fun z3 =>
    obind (appI (8 : Nat) v14 [z3]) fun z4 =>
    (l_ref18_tree_3 N m (n, (i, ((IntKind.wrap .i64 (k + (1 : Int))), (l, z4))))))
   (some (n, (i, v14))) := by kernel_rfl
theorem l_ref18_tree_2_z (N : Nat) (v : Int × Bool × Int × (List Int)) : l_ref18_tree_2 N 0 v = none := by kernel_rfl
theorem l_ref18_tree_2_s (N m : Nat) (n : Int) (found : Bool) (i : Int) (l : (List Int)) : l_ref18_tree_2 N (m + 1) (n, found, i, l) = cond (decide (i < (((List.length l) : Nat) : Int)))
   (cond (!found)
     (obind (nthI l i) fun z1 =>
      obind (nthI l i) fun z2 =>
      obind (remI (IntKind.wrap .i64 (i + (1 : Int))) (((List.length l) : Nat) : Int)) fun z3 =>
      obind (nthI l z3) fun z4 =>
      obind (nthI l z3) fun z5 =>
      obind (remI (IntKind.wrap .i64 (i + (2 : Int))) (((List.length l) : Nat) : Int)) fun z6 =>
      obind (nthI l z6) fun z7 =>
      obind (nthI l z6) fun z8 =>
      obind (m_ref18_Token N (n, z2)) fun z9 =>
      cond (decide ((4 : Int) ≤ (((List.length l) : Nat) : Int)))
       (cond z9.2.2.2
         (cond z9.2.2.1
           (cond (decide (z5 = z9.2.1))
             (obind (m_ref18_Arc N (n, (z9.2.1, z9.1))) fun z10 =>
              cond (decide (z8 = z10))
               (obind (remI (IntKind.wrap .i64 ((IntKind.wrap .i64 (i + (((List.length l) : Nat) : Int))) - (1 : Int))) (((List.length l) : Nat) : Int)) fun z11 =>
                obind (nthI l z11) fun z12 =>
                obind (nthI l z11) fun z13 =>
                obind (m_ref18_stands N (n, (z13, z9.1))) fun z14 =>
                cond z14
                 (obind (l_ref18_tree_3 N N (n, (i, ((3 : Int), (l, []))))) fun z15 =>
                  (l_ref18_tree_2 N m (z15.1, (true, ((IntKind.wrap .i64 (z15.2.1 + (1 : Int))), z15.2.2)))))
                 ((l_ref18_tree_2 N m (n, (found, ((IntKind.wrap .i64 (i + (1 : Int))), l))))))
               ((l_ref18_tree_2 N m (n, (found, ((IntKind.wrap .i64 (i + (1 : Int))), l))))))
             ((l_ref18_tree_2 N m (n, (found, ((IntKind.wrap .i64 (i + (1 : Int))), l))))))
           ((l_ref18_tree_2 N m (n, (found, ((IntKind.wrap .i64 (i + (1 : Int))), l))))))
         ((l_ref18_tree_2 N m (n, (found, ((IntKind.wrap .i64 (i + (1 : Int))), l))))))
       ((l_ref18_tree_2 N m (n, (found, ((IntKind.wrap .i64 (i + (1 : Int))), l))))))
     (some (n, (found, l))))
   (some (n, (found, l))) := by kernel_rfl
theorem l_ref18_tree_1_z (N : Nat) (v : Int × (List Int)) : l_ref18_tree_1 N 0 v = none := by kernel_rfl
theorem l_ref18_tree_1_s (N m : Nat) (n : Int) (l : (List Int)) : l_ref18_tree_1 N (m + 1) (n, l) = cond (decide ((1 : Int) < (((List.length l) : Nat) : Int)))
   (obind (l_ref18_tree_2 N N (n, (false, ((0 : Int), l)))) fun z1 =>
    cond (!z1.2.1)
     (some (.inr false))
     ((l_ref18_tree_1 N m (z1.1, z1.2.2))))
   (some (.inl (n, l))) := by kernel_rfl
theorem m_ref18_tree_eq (N : Nat) (n : Int) (l : (List Int)) : m_ref18_tree (N + 1) (n, l) = obind (appI (8 : Nat) [] l) fun z1 =>
  obind (l_ref18_tree_1 N N (n, z1)) fun z2 =>
  (match z2 with
  | .inl zy3 => cond (decide ((((List.length zy3.2) : Nat) : Int) = (1 : Int)))
     (obind (nthI zy3.2 (0 : Int)) fun z4 =>
      obind (nthI zy3.2 (0 : Int)) fun z5 =>
      obind (m_ref18_in N (zy3.1, z5)) fun z6 =>
      some z6)
     (some false)
  | .inr zy7 => some zy7) := by kernel_rfl
theorem c_ref18_tree_ok (N : Nat) : (c_ref18_tree N).ok Try.prog := exF_ok (T := T) (CT := ct_ref18_tree) (N := N) (fun M => ⟨tOk, (ctAll_cons (c_ref18_Token_ok M) (ctAll_cons (c_ref18_Arc_ok M) (ctAll_cons (c_ref18_stands_ok M) (ctAll_cons (c_ref18_in_ok M) ctAll_nil)))), mixed⟩) Try.func63 (by kernel_rfl) (by kernel_rfl) p_ref18_tree [.h (.i .i64), .h (.sl (.i .i64))] [] [(.i .i64), (.sl (.i .i64))] r_ref18_tree false true [] (by kernel_rfl) (fun y => by kernel_rfl) (fun _ => ⟨rfl, rfl⟩) (fun y => by kernel_rfl) (m_ref18_tree N) (fun x => by kernel_rfl)
/-! archipelago/archipelagoref13.From -/
noncomputable def ct_ref13_From (N : Nat) : List Ctr := [c_ref13_Place N, c_ref13_Right N]
def p_ref13_From : Pl := .z
def r_ref13_From : PS := ⟨[(4, .k (.ow 900)), (5, .h .b)], [(900, .arr 3 (.i .i64) true)], [.b, (.sl (.i .i64))]⟩
noncomputable def m_ref13_From (N : Nat) : (List Int) × Int → Option (Bool × (List Int)) := exF T ct_ref13_From N (bodyOf Try.f48) 26 p_ref13_From [.h (.sl (.i .i64)), .h (.i .i64)] [] [(.sl (.i .i64)), (.i .i64)] r_ref13_From
noncomputable def c_ref13_From (N : Nat) : Ctr := ⟨48, [.h (.sl (.i .i64)), .h (.i .i64)], [], [(.sl (.i .i64)), (.i .i64)], Tup r_ref13_From.c, m_ref13_From N, fun y _ k => k (resG T (mkPS 26 r_ref13_From y) Try.f48.results.toList) (keepH' [900] (mkPS 26 r_ref13_From y).h), true, true⟩
theorem m_ref13_From_eq (N : Nat) (l : (List Int)) (token : Int) : m_ref13_From (N + 1) (l, token) = obind (m_ref13_Place N (l, token)) fun z1 =>
  obind (m_ref13_Right N l) fun z2 =>
  cond (!z2)
   (some (false, []))
   (cond (decide (z1 < (0 : Int)))
     (some (false, []))
     (obind (subI l z1 (((List.length l) : Nat) : Int)) fun z3 =>
      obind (appI (8 : Nat) [] z3) fun z4 =>
      obind (subI l (0 : Int) z1) fun z5 =>
      obind (appI (8 : Nat) z4 z5) fun z6 =>
      some (true, z6))) := by kernel_rfl
theorem c_ref13_From_ok (N : Nat) : (c_ref13_From N).ok Try.prog := exF_ok (T := T) (CT := ct_ref13_From) (N := N) (fun M => ⟨tOk, (ctAll_cons (c_ref13_Place_ok M) (ctAll_cons (c_ref13_Right_ok M) ctAll_nil)), mixed⟩) Try.func48 (by kernel_rfl) (by kernel_rfl) p_ref13_From [.h (.sl (.i .i64)), .h (.i .i64)] [] [(.sl (.i .i64)), (.i .i64)] r_ref13_From true true [900] (by kernel_rfl) (fun y => by kernel_rfl) (fun h => by cases h) (fun y => by kernel_rfl) (m_ref13_From N) (fun x => by kernel_rfl)
/-! archipelago/archipelagoref13.Plain -/
noncomputable def ct_ref13_Plain (N : Nat) : List Ctr := [c_ref13_Right N, c_ref13_From N]
def i_ref13_Plain_1 : PS := ⟨[(0, .h (.sl (.i .i64))), (3, .h (.i .i64)), (4, .h (.i .i64))], [], [(.sl (.i .i64)), (.i .i64), (.i .i64)]⟩
def o_ref13_Plain_1 : List (Exit × PS) := [((.exit 0), ⟨[(0, .h (.sl (.i .i64))), (3, .h (.i .i64))], [], [(.sl (.i .i64)), (.i .i64)]⟩)]
def p_ref13_Plain_1 : Pl := .z
noncomputable def l_ref13_Plain_1 (N : Nat) : Nat → (List Int) × Int × Int → Option ((List Int) × Int) := loopF (exC T (ct_ref13_Plain N) N (codeAt [1, 1, 1, 0, 1, 0, 0] (bodyOf Try.f65))) 37 i_ref13_Plain_1 o_ref13_Plain_1 p_ref13_Plain_1
def p_ref13_Plain : Pl := (.n .z (.n .z (.n .z (.n (.n .z (.n (.loop i_ref13_Plain_1 o_ref13_Plain_1 p_ref13_Plain_1) .z)) .z))))
def r_ref13_Plain : PS := ⟨[(2, .k (.ow 900))], [(900, .arr 3 (.i .i64) true)], [(.sl (.i .i64))]⟩
noncomputable def m_ref13_Plain (N : Nat) : (List Int) → Option ((List Int)) := exF T ct_ref13_Plain N (bodyOf Try.f65) 37 p_ref13_Plain [.h (.sl (.i .i64))] [] [(.sl (.i .i64))] r_ref13_Plain
noncomputable def c_ref13_Plain (N : Nat) : Ctr := ⟨65, [.h (.sl (.i .i64))], [], [(.sl (.i .i64))], Tup r_ref13_Plain.c, m_ref13_Plain N, fun y _ k => k (resG T (mkPS 37 r_ref13_Plain y) Try.f65.results.toList) (keepH' [900] (mkPS 37 r_ref13_Plain y).h), true, true⟩
theorem l_ref13_Plain_1_z (N : Nat) (v : (List Int) × Int × Int) : l_ref13_Plain_1 N 0 v = none := by kernel_rfl
theorem l_ref13_Plain_1_s (N m : Nat) (l : (List Int)) (least : Int) (i : Int) : l_ref13_Plain_1 N (m + 1) (l, least, i) = cond (decide (i < (((List.length l) : Nat) : Int)))
   (obind (nthI l i) fun z1 =>
    (l_ref13_Plain_1 N m (l, ((if (z1 < least) then z1 else least), (IntKind.wrap .i64 (i + (1 : Int)))))))
   (some (l, least)) := by kernel_rfl
theorem m_ref13_Plain_eq (N : Nat) (l : (List Int)) : m_ref13_Plain (N + 1) (l) = obind (m_ref13_Right N l) fun z1 =>
  cond (!z1)
   (some [])
   (cond (decide ((((List.length l) : Nat) : Int) = (0 : Int)))
     (some [])
     (obind (nthI l (0 : Int)) fun z2 =>
      obind (l_ref13_Plain_1 N N (l, (z2, (0 : Int)))) fun z3 =>
      obind (m_ref13_From N (z3.1, z3.2)) fun z4 =>
      some z4.2)) := by kernel_rfl
theorem c_ref13_Plain_ok (N : Nat) : (c_ref13_Plain N).ok Try.prog := exF_ok (T := T) (CT := ct_ref13_Plain) (N := N) (fun M => ⟨tOk, (ctAll_cons (c_ref13_Right_ok M) (ctAll_cons (c_ref13_From_ok M) ctAll_nil)), mixed⟩) Try.func65 (by kernel_rfl) (by kernel_rfl) p_ref13_Plain [.h (.sl (.i .i64))] [] [(.sl (.i .i64))] r_ref13_Plain true true [900] (by kernel_rfl) (fun y => by kernel_rfl) (fun h => by cases h) (fun y => by kernel_rfl) (m_ref13_Plain N) (fun x => by kernel_rfl)
/-! archipelago/archipelagoref01.Ints -/
noncomputable def ct_ref01_Ints (N : Nat) : List Ctr := []
def i_ref01_Ints_1 : PS := ⟨[(0, .h (.sl (.i .i64))), (1, .h (.sl (.i .i64))), (5, .h (.i .i64))], [], [(.sl (.i .i64)), (.sl (.i .i64)), (.i .i64)]⟩
def o_ref01_Ints_1 : List (Exit × PS) := [((.exit 0), ⟨[], [], []⟩), (.ret, ⟨[(4, .h .b)], [], [.b]⟩)]
def p_ref01_Ints_1 : Pl := .z
noncomputable def l_ref01_Ints_1 (N : Nat) : Nat → (List Int) × (List Int) × Int → Option ((Unit) ⊕ (Bool)) := loopF (exC T (ct_ref01_Ints N) N (codeAt [1, 1, 0, 1, 0, 0] (bodyOf Try.f21))) 26 i_ref01_Ints_1 o_ref01_Ints_1 p_ref01_Ints_1
def p_ref01_Ints : Pl := (.n .z (.n .z (.n (.n .z (.n (.loop i_ref01_Ints_1 o_ref01_Ints_1 p_ref01_Ints_1) .z)) .z)))
def r_ref01_Ints : PS := ⟨[(4, .h .b)], [], [.b]⟩
noncomputable def m_ref01_Ints (N : Nat) : (List Int) × (List Int) → Option (Bool) := exF T ct_ref01_Ints N (bodyOf Try.f21) 26 p_ref01_Ints [.h (.sl (.i .i64)), .h (.sl (.i .i64))] [] [(.sl (.i .i64)), (.sl (.i .i64))] r_ref01_Ints
noncomputable def c_ref01_Ints (N : Nat) : Ctr := ⟨21, [.h (.sl (.i .i64)), .h (.sl (.i .i64))], [], [(.sl (.i .i64)), (.sl (.i .i64))], Tup r_ref01_Ints.c, m_ref01_Ints N, fun y _ k => k (resG T (mkPS 26 r_ref01_Ints y) Try.f21.results.toList) (keepH' [] (mkPS 26 r_ref01_Ints y).h), false, true⟩
theorem l_ref01_Ints_1_z (N : Nat) (v : (List Int) × (List Int) × Int) : l_ref01_Ints_1 N 0 v = none := by kernel_rfl
theorem l_ref01_Ints_1_s (N m : Nat) (a : (List Int)) (b : (List Int)) (i : Int) : l_ref01_Ints_1 N (m + 1) (a, b, i) = cond (decide (i < (((List.length a) : Nat) : Int)))
   (obind (nthI a i) fun z1 =>
    obind (nthI b i) fun z2 =>
    cond (!(decide (z1 = z2)))
     (some (.inr false))
     ((l_ref01_Ints_1 N m (a, (b, (IntKind.wrap .i64 (i + (1 : Int))))))))
   (some (.inl ())) := by kernel_rfl
theorem m_ref01_Ints_eq (N : Nat) (a : (List Int)) (b : (List Int)) : m_ref01_Ints (N + 1) (a, b) = cond (!(decide ((((List.length a) : Nat) : Int) = (((List.length b) : Nat) : Int))))
   (some false)
   (obind (l_ref01_Ints_1 N N (a, (b, (0 : Int)))) fun z1 =>
    (match z1 with
    | .inl zy2 => some true
    | .inr zy3 => some zy3)) := by kernel_rfl
theorem c_ref01_Ints_ok (N : Nat) : (c_ref01_Ints N).ok Try.prog := exF_ok (T := T) (CT := ct_ref01_Ints) (N := N) (fun M => ⟨tOk, ctAll_nil, mixed⟩) Try.func21 (by kernel_rfl) (by kernel_rfl) p_ref01_Ints [.h (.sl (.i .i64)), .h (.sl (.i .i64))] [] [(.sl (.i .i64)), (.sl (.i .i64))] r_ref01_Ints false true [] (by kernel_rfl) (fun y => by kernel_rfl) (fun _ => ⟨rfl, rfl⟩) (fun y => by kernel_rfl) (m_ref01_Ints N) (fun x => by kernel_rfl)
/-! archipelago/archipelagoref14.Lists -/
noncomputable def ct_ref14_Lists (N : Nat) : List Ctr := [c_ref01_Ints N]
def i_ref14_Lists_1 : PS := ⟨[(0, .h (.sl (.sl (.i .i64)))), (1, .h (.sl (.sl (.i .i64)))), (5, .h (.i .i64))], [], [(.sl (.sl (.i .i64))), (.sl (.sl (.i .i64))), (.i .i64)]⟩
def o_ref14_Lists_1 : List (Exit × PS) := [((.exit 0), ⟨[], [], []⟩), (.ret, ⟨[(4, .h .b)], [], [.b]⟩)]
def p_ref14_Lists_1 : Pl := .z
noncomputable def l_ref14_Lists_1 (N : Nat) : Nat → (List (List Int)) × (List (List Int)) × Int → Option ((Unit) ⊕ (Bool)) := loopF (exC T (ct_ref14_Lists N) N (codeAt [1, 1, 0, 1, 0, 0] (bodyOf Try.f64))) 27 i_ref14_Lists_1 o_ref14_Lists_1 p_ref14_Lists_1
def p_ref14_Lists : Pl := (.n .z (.n .z (.n (.n .z (.n (.loop i_ref14_Lists_1 o_ref14_Lists_1 p_ref14_Lists_1) .z)) .z)))
def r_ref14_Lists : PS := ⟨[(4, .h .b)], [], [.b]⟩
noncomputable def m_ref14_Lists (N : Nat) : (List (List Int)) × (List (List Int)) → Option (Bool) := exF T ct_ref14_Lists N (bodyOf Try.f64) 27 p_ref14_Lists [.h (.sl (.sl (.i .i64))), .h (.sl (.sl (.i .i64)))] [] [(.sl (.sl (.i .i64))), (.sl (.sl (.i .i64)))] r_ref14_Lists
noncomputable def c_ref14_Lists (N : Nat) : Ctr := ⟨64, [.h (.sl (.sl (.i .i64))), .h (.sl (.sl (.i .i64)))], [], [(.sl (.sl (.i .i64))), (.sl (.sl (.i .i64)))], Tup r_ref14_Lists.c, m_ref14_Lists N, fun y _ k => k (resG T (mkPS 27 r_ref14_Lists y) Try.f64.results.toList) (keepH' [] (mkPS 27 r_ref14_Lists y).h), false, true⟩
theorem l_ref14_Lists_1_z (N : Nat) (v : (List (List Int)) × (List (List Int)) × Int) : l_ref14_Lists_1 N 0 v = none := by kernel_rfl
theorem l_ref14_Lists_1_s (N m : Nat) (a : (List (List Int))) (b : (List (List Int))) (i : Int) : l_ref14_Lists_1 N (m + 1) (a, b, i) = cond (decide (i < (((List.length a) : Nat) : Int)))
   (obind (nthI a i) fun z1 =>
    obind (nthI b i) fun z2 =>
    obind (m_ref01_Ints N (z1, z2)) fun z3 =>
    cond (!z3)
     (some (.inr false))
     ((l_ref14_Lists_1 N m (a, (b, (IntKind.wrap .i64 (i + (1 : Int))))))))
   (some (.inl ())) := by kernel_rfl
theorem m_ref14_Lists_eq (N : Nat) (a : (List (List Int))) (b : (List (List Int))) : m_ref14_Lists (N + 1) (a, b) = cond (!(decide ((((List.length a) : Nat) : Int) = (((List.length b) : Nat) : Int))))
   (some false)
   (obind (l_ref14_Lists_1 N N (a, (b, (0 : Int)))) fun z1 =>
    (match z1 with
    | .inl zy2 => some true
    | .inr zy3 => some zy3)) := by kernel_rfl
theorem c_ref14_Lists_ok (N : Nat) : (c_ref14_Lists N).ok Try.prog := exF_ok (T := T) (CT := ct_ref14_Lists) (N := N) (fun M => ⟨tOk, (ctAll_cons (c_ref01_Ints_ok M) ctAll_nil), mixed⟩) Try.func64 (by kernel_rfl) (by kernel_rfl) p_ref14_Lists [.h (.sl (.sl (.i .i64))), .h (.sl (.sl (.i .i64)))] [] [(.sl (.sl (.i .i64))), (.sl (.sl (.i .i64)))] r_ref14_Lists false true [] (by kernel_rfl) (fun y => by kernel_rfl) (fun _ => ⟨rfl, rfl⟩) (fun y => by kernel_rfl) (m_ref14_Lists N) (fun x => by kernel_rfl)
/-! archipelago/archipelagoref18.Right -/
noncomputable def ct_ref18_Right (N : Nat) : List Ctr := [c_ref13_Right N, c_ref18_tree N, c_ref13_Plain N, c_ref14_Lists N]
def i_ref18_Right_2 : PS := ⟨[(1, .k (.pt 900 0)), (3, .k (.ow 901)), (4, .h (.i .i64)), (5, .h (.i .i64)), (6, .h (.i .i64)), (7, .h (.sl (.i .i64))), (8, .h (.i .i64))], [(900, .box 24 [.h (.i .i64), .h (.sl (.sl (.i .i64)))]), (901, .arr 4 .b true)], [(.i .i64), (.i .i64), (.i .i64), (.sl (.i .i64)), (.i .i64), (.i .i64), (.sl (.sl (.i .i64))), (.sl .b)]⟩
def o_ref18_Right_2 : List (Exit × PS) := [((.exit 2), ⟨[(1, .k (.pt 900 0)), (3, .k (.ow 901)), (4, .h (.i .i64)), (5, .h (.i .i64)), (6, .h (.i .i64))], [(900, .box 24 [.h (.i .i64), .h (.sl (.sl (.i .i64)))]), (901, .arr 4 .b true)], [(.i .i64), (.i .i64), (.i .i64), (.i .i64), (.sl (.sl (.i .i64))), (.sl .b)]⟩), (.ret, ⟨[(2, .h .b)], [], [.b]⟩)]
def p_ref18_Right_2 : Pl := .z
noncomputable def l_ref18_Right_2 (N : Nat) : Nat → Int × Int × Int × (List Int) × Int × Int × (List (List Int)) × (List Bool) → Option ((Int × Int × Int × Int × (List (List Int)) × (List Bool)) ⊕ (Bool)) := loopF (exC T (ct_ref18_Right N) N (codeAt [1, 1, 1, 1, 1, 0, 1, 0, 0, 1, 0, 0, 1, 1, 1, 1, 0, 0] (bodyOf Try.f45))) 106 i_ref18_Right_2 o_ref18_Right_2 p_ref18_Right_2
def i_ref18_Right_1 : PS := ⟨[(1, .k (.pt 900 0)), (3, .k (.ow 901)), (4, .h (.i .i64)), (5, .h (.i .i64)), (6, .h (.i .i64))], [(900, .box 24 [.h (.i .i64), .h (.sl (.sl (.i .i64)))]), (901, .arr 4 .b true)], [(.i .i64), (.i .i64), (.i .i64), (.i .i64), (.sl (.sl (.i .i64))), (.sl .b)]⟩
def o_ref18_Right_1 : List (Exit × PS) := [((.exit 0), ⟨[(1, .k (.pt 900 0)), (5, .h (.i .i64))], [(900, .box 24 [.h (.i .i64), .h (.sl (.sl (.i .i64)))])], [(.i .i64), (.i .i64), (.sl (.sl (.i .i64)))]⟩), (.ret, ⟨[(2, .h .b)], [], [.b]⟩)]
def p_ref18_Right_1 : Pl := (.n .z (.n (.n (.n .z (.n .z (.n .z (.n .z (.n (.loop i_ref18_Right_2 o_ref18_Right_2 p_ref18_Right_2) .z))))) .z) .z))
noncomputable def l_ref18_Right_1 (N : Nat) : Nat → Int × Int × Int × Int × (List (List Int)) × (List Bool) → Option ((Int × Int × (List (List Int))) ⊕ (Bool)) := loopF (exC T (ct_ref18_Right N) N (codeAt [1, 1, 1, 1, 1, 0, 1, 0, 0] (bodyOf Try.f45))) 106 i_ref18_Right_1 o_ref18_Right_1 p_ref18_Right_1
def p_ref18_Right : Pl := (.n .z (.n .z (.n .z (.n .z (.n .z (.n (.n .z (.n (.loop i_ref18_Right_1 o_ref18_Right_1 p_ref18_Right_1) .z)) .z))))))
def r_ref18_Right : PS := ⟨[(2, .h .b)], [], [.b]⟩
noncomputable def m_ref18_Right (N : Nat) : Int × (List (List Int)) → Option (Bool) := exF T ct_ref18_Right N (bodyOf Try.f45) 106 p_ref18_Right [.ag [.h (.i .i64), .h (.sl (.sl (.i .i64)))]] [] [(.i .i64), (.sl (.sl (.i .i64)))] r_ref18_Right
noncomputable def c_ref18_Right (N : Nat) : Ctr := ⟨45, [.ag [.h (.i .i64), .h (.sl (.sl (.i .i64)))]], [], [(.i .i64), (.sl (.sl (.i .i64)))], Tup r_ref18_Right.c, m_ref18_Right N, fun y _ k => k (resG T (mkPS 106 r_ref18_Right y) Try.f45.results.toList) (keepH' [] (mkPS 106 r_ref18_Right y).h), false, true⟩
theorem l_ref18_Right_2_z (N : Nat) (v : Int × Int × Int × (List Int) × Int × Int × (List (List Int)) × (List Bool)) : l_ref18_Right_2 N 0 v = none := by kernel_rfl
theorem l_ref18_Right_2_s (N m : Nat) (last : Int) (all : Int) (i : Int) (l : (List Int)) (k : Int) (f : Int) (f2 : (List (List Int))) (met : (List Bool)) : l_ref18_Right_2 N (m + 1) (last, all, i, l, k, f, f2, met) = cond (decide (k < (((List.length l) : Nat) : Int)))
   (obind (nthI l k) fun z1 =>
    cond (decide (z1 < f))
     (obind (nthI l k) fun z2 =>
      obind (nthI met z2) fun z3 =>
      obind (nthI met z2) fun z4 =>
      cond z4
       (some (.inr false))
       (obind (nthI l k) fun z5 =>
        obind (nthI met z5) fun z6 =>
        obind (nthI met z5) fun z7 =>
        (l_ref18_Right_2 N m (last, ((IntKind.wrap .i64 (all + (1 : Int))), (i, (l, ((IntKind.wrap .i64 (k + (1 : Int))), (f, (f2, (List.set met (Int.toNat z5) true)))))))))))
     ((l_ref18_Right_2 N m (last, (all, (i, (l, ((IntKind.wrap .i64 (k + (1 : Int))), (f, (f2, met))))))))))
   (some (.inl (last, (all, (i, (f, (f2, met))))))) := by kernel_rfl
theorem l_ref18_Right_1_z (N : Nat) (v : Int × Int × Int × Int × (List (List Int)) × (List Bool)) : l_ref18_Right_1 N 0 v = none := by kernel_rfl
theorem l_ref18_Right_1_s (N m : Nat) (last : Int) (all : Int) (i : Int) (f : Int) (f2 : (List (List Int))) (met : (List Bool)) : l_ref18_Right_1 N (m + 1) (last, all, i, f, f2, met) = cond (decide (i < (((List.length f2) : Nat) : Int)))
   (obind (nthI f2 i) fun z1 =>
    obind (m_ref13_Right N z1) fun z2 =>
    cond (!z2)
     (some (.inr false))
     (cond (decide ((((List.length z1) : Nat) : Int) = (0 : Int)))
       (some (.inr false))
       (obind (m_ref18_tree N (f, z1)) fun z3 =>
        cond (!z3)
         (some (.inr false))
         (obind (m_ref13_Plain N z1) fun z4 =>
          obind (m_ref14_Lists N ([z4], [z1])) fun z5 =>
          cond (!z5)
           (some (.inr false))
           (obind (nthI z1 (0 : Int)) fun z6 =>
            cond (decide (z6 ≤ last))
             (some (.inr false))
             (obind (nthI z1 (0 : Int)) fun z7 =>
              obind (l_ref18_Right_2 N N (z7, (all, (i, (z1, ((0 : Int), (f, (f2, met)))))))) fun z8 =>
              (match z8 with
              | .inl zy9 => (l_ref18_Right_1 N m (zy9.1, (zy9.2.1, ((IntKind.wrap .i64 (zy9.2.2.1 + (1 : Int))), (zy9.2.2.2.1, (zy9.2.2.2.2.1, zy9.2.2.2.2.2))))))
              | .inr zy10 => some (.inr zy10))))))))
   (some (.inl (all, (f, f2)))) := by kernel_rfl
theorem m_ref18_Right_eq (N : Nat) (f : Int) (f2 : (List (List Int))) : m_ref18_Right (N + 1) (f, f2) = cond (decide (f < (1 : Int)))
   (some false)
   (cond (decide ((64 : Int) < f))
     (some false)
     (cond (decide (f < (((List.length f2) : Nat) : Int)))
       (some false)
       (obind (makI f (1 : Nat)) fun z1 =>
        obind (l_ref18_Right_1 N N ((-(1 : Int)), ((0 : Int), ((0 : Int), (f, (f2, (List.replicate z1 false))))))) fun z2 =>
        (match z2 with
        | .inl zy3 => some (decide (zy3.1 = zy3.2.1))
        | .inr zy4 => some zy4)))) := by kernel_rfl
theorem c_ref18_Right_ok (N : Nat) : (c_ref18_Right N).ok Try.prog := exF_ok (T := T) (CT := ct_ref18_Right) (N := N) (fun M => ⟨tOk, (ctAll_cons (c_ref13_Right_ok M) (ctAll_cons (c_ref18_tree_ok M) (ctAll_cons (c_ref13_Plain_ok M) (ctAll_cons (c_ref14_Lists_ok M) ctAll_nil)))), mixed⟩) Try.func45 (by kernel_rfl) (by kernel_rfl) p_ref18_Right [.ag [.h (.i .i64), .h (.sl (.sl (.i .i64)))]] [] [(.i .i64), (.sl (.sl (.i .i64)))] r_ref18_Right false true [] (by kernel_rfl) (fun y => by kernel_rfl) (fun _ => ⟨rfl, rfl⟩) (fun y => by kernel_rfl) (m_ref18_Right N) (fun x => by kernel_rfl)
/-! archipelago/archipelagoref19.there -/
noncomputable def ct_ref19_there (N : Nat) : List Ctr := [c_ref18_Right N]
def i_ref19_there_1 : PS := ⟨[(1, .h (.sl (.pr (.i .i64) (.i .i64)))), (2, .k (.pt 900 0)), (5, .h (.i .i64))], [(900, .box 24 [.h (.i .i64), .h (.sl (.sl (.i .i64)))])], [(.sl (.pr (.i .i64) (.i .i64))), (.i .i64), (.i .i64), (.sl (.sl (.i .i64)))]⟩
def o_ref19_there_1 : List (Exit × PS) := [((.exit 0), ⟨[], [], []⟩), (.ret, ⟨[(4, .h (.i .i64))], [], [(.i .i64)]⟩)]
def p_ref19_there_1 : Pl := .z
noncomputable def l_ref19_there_1 (N : Nat) : Nat → (List (Int × Int)) × Int × Int × (List (List Int)) → Option ((Unit) ⊕ (Int)) := loopF (exC T (ct_ref19_there N) N (codeAt [1, 1, 0, 1, 0, 0] (bodyOf Try.f36))) 49 i_ref19_there_1 o_ref19_there_1 p_ref19_there_1
def p_ref19_there : Pl := (.n .z (.n .z (.n (.n .z (.n (.loop i_ref19_there_1 o_ref19_there_1 p_ref19_there_1) .z)) .z)))
def r_ref19_there : PS := ⟨[(4, .h (.i .i64))], [], [(.i .i64)]⟩
noncomputable def m_ref19_there (N : Nat) : Int × (List (List Int)) × (List (Int × Int)) → Option (Int) := exF T ct_ref19_there N (bodyOf Try.f36) 49 p_ref19_there [.ag [.h (.i .i64), .h (.sl (.sl (.i .i64)))], .h (.sl (.pr (.i .i64) (.i .i64)))] [] [(.i .i64), (.sl (.sl (.i .i64))), (.sl (.pr (.i .i64) (.i .i64)))] r_ref19_there
noncomputable def c_ref19_there (N : Nat) : Ctr := ⟨36, [.ag [.h (.i .i64), .h (.sl (.sl (.i .i64)))], .h (.sl (.pr (.i .i64) (.i .i64)))], [], [(.i .i64), (.sl (.sl (.i .i64))), (.sl (.pr (.i .i64) (.i .i64)))], Tup r_ref19_there.c, m_ref19_there N, fun y _ k => k (resG T (mkPS 49 r_ref19_there y) Try.f36.results.toList) (keepH' [] (mkPS 49 r_ref19_there y).h), false, true⟩
theorem l_ref19_there_1_z (N : Nat) (v : (List (Int × Int)) × Int × Int × (List (List Int))) : l_ref19_there_1 N 0 v = none := by kernel_rfl
theorem l_ref19_there_1_s (N m : Nat) (l : (List (Int × Int))) (i : Int) (f : Int) (f2 : (List (List Int))) : l_ref19_there_1 N (m + 1) (l, i, f, f2) = cond (decide (i < (((List.length l) : Nat) : Int)))
   (obind (nthI l i) fun z1 =>
    cond (decide (z1.1 < (0 : Int)))
     (some (.inr (10 : Int)))
     (obind (nthI l i) fun z2 =>
      cond (decide (f ≤ z2.1))
       (some (.inr (10 : Int)))
       (obind (nthI l i) fun z3 =>
        cond (decide (z3.2 < (0 : Int)))
         (some (.inr (10 : Int)))
         (obind (nthI l i) fun z4 =>
          cond (decide (f ≤ z4.2))
           (some (.inr (10 : Int)))
           ((l_ref19_there_1 N m (l, ((IntKind.wrap .i64 (i + (1 : Int))), (f, f2)))))))))
   (some (.inl ())) := by kernel_rfl
theorem m_ref19_there_eq (N : Nat) (f : Int) (f2 : (List (List Int))) (l : (List (Int × Int))) : m_ref19_there (N + 1) (f, f2, l) = obind (m_ref18_Right N (f, f2)) fun z1 =>
  cond (!z1)
   (some (1 : Int))
   (obind (l_ref19_there_1 N N (l, ((0 : Int), (f, f2)))) fun z2 =>
    (match z2 with
    | .inl zy3 => some (0 : Int)
    | .inr zy4 => some zy4)) := by kernel_rfl
theorem c_ref19_there_ok (N : Nat) : (c_ref19_there N).ok Try.prog := exF_ok (T := T) (CT := ct_ref19_there) (N := N) (fun M => ⟨tOk, (ctAll_cons (c_ref18_Right_ok M) ctAll_nil), mixed⟩) Try.func36 (by kernel_rfl) (by kernel_rfl) p_ref19_there [.ag [.h (.i .i64), .h (.sl (.sl (.i .i64)))], .h (.sl (.pr (.i .i64) (.i .i64)))] [] [(.i .i64), (.sl (.sl (.i .i64))), (.sl (.pr (.i .i64) (.i .i64)))] r_ref19_there false true [] (by kernel_rfl) (fun y => by kernel_rfl) (fun _ => ⟨rfl, rfl⟩) (fun y => by kernel_rfl) (m_ref19_there N) (fun x => by kernel_rfl)
/-! archipelago/archipelagoref18.place -/
noncomputable def ct_ref18_place (N : Nat) : List Ctr := [c_ref13_Place N]
def i_ref18_place_1 : PS := ⟨[(1, .h (.i .i64)), (2, .k (.pt 900 0)), (5, .h (.i .i64))], [(900, .box 24 [.h (.i .i64), .h (.sl (.sl (.i .i64)))])], [(.i .i64), (.i .i64), (.i .i64), (.sl (.sl (.i .i64)))]⟩
def o_ref18_place_1 : List (Exit × PS) := [((.exit 0), ⟨[], [], []⟩), (.ret, ⟨[(4, .h (.i .i64))], [], [(.i .i64)]⟩)]
def p_ref18_place_1 : Pl := .z
noncomputable def l_ref18_place_1 (N : Nat) : Nat → Int × Int × Int × (List (List Int)) → Option ((Unit) ⊕ (Int)) := loopF (exC T (ct_ref18_place N) N (codeAt [1, 0, 1, 0, 0] (bodyOf Try.f47))) 22 i_ref18_place_1 o_ref18_place_1 p_ref18_place_1
def p_ref18_place : Pl := (.n .z (.n (.n .z (.n (.loop i_ref18_place_1 o_ref18_place_1 p_ref18_place_1) .z)) .z))
def r_ref18_place : PS := ⟨[(4, .h (.i .i64))], [], [(.i .i64)]⟩
noncomputable def m_ref18_place (N : Nat) : Int × (List (List Int)) × Int → Option (Int) := exF T ct_ref18_place N (bodyOf Try.f47) 22 p_ref18_place [.ag [.h (.i .i64), .h (.sl (.sl (.i .i64)))], .h (.i .i64)] [] [(.i .i64), (.sl (.sl (.i .i64))), (.i .i64)] r_ref18_place
noncomputable def c_ref18_place (N : Nat) : Ctr := ⟨47, [.ag [.h (.i .i64), .h (.sl (.sl (.i .i64)))], .h (.i .i64)], [], [(.i .i64), (.sl (.sl (.i .i64))), (.i .i64)], Tup r_ref18_place.c, m_ref18_place N, fun y _ k => k (resG T (mkPS 22 r_ref18_place y) Try.f47.results.toList) (keepH' [] (mkPS 22 r_ref18_place y).h), false, true⟩
theorem l_ref18_place_1_z (N : Nat) (v : Int × Int × Int × (List (List Int))) : l_ref18_place_1 N 0 v = none := by kernel_rfl
theorem l_ref18_place_1_s (N m : Nat) (v : Int) (i : Int) (f : Int) (f2 : (List (List Int))) : l_ref18_place_1 N (m + 1) (v, i, f, f2) = cond (decide (i < (((List.length f2) : Nat) : Int)))
   (obind (nthI f2 i) fun z1 =>
    obind (m_ref13_Place N (z1, v)) fun z2 =>
    cond (decide ((0 : Int) ≤ z2))
     (some (.inr i))
     ((l_ref18_place_1 N m (v, ((IntKind.wrap .i64 (i + (1 : Int))), (f, f2))))))
   (some (.inl ())) := by kernel_rfl
theorem m_ref18_place_eq (N : Nat) (f : Int) (f2 : (List (List Int))) (v : Int) : m_ref18_place (N + 1) (f, f2, v) = obind (l_ref18_place_1 N N (v, ((0 : Int), (f, f2)))) fun z1 =>
  (match z1 with
  | .inl zy2 => some (-(1 : Int))
  | .inr zy3 => some zy3) := by kernel_rfl
theorem c_ref18_place_ok (N : Nat) : (c_ref18_place N).ok Try.prog := exF_ok (T := T) (CT := ct_ref18_place) (N := N) (fun M => ⟨tOk, (ctAll_cons (c_ref13_Place_ok M) ctAll_nil), mixed⟩) Try.func47 (by kernel_rfl) (by kernel_rfl) p_ref18_place [.ag [.h (.i .i64), .h (.sl (.sl (.i .i64)))], .h (.i .i64)] [] [(.i .i64), (.sl (.sl (.i .i64))), (.i .i64)] r_ref18_place false true [] (by kernel_rfl) (fun y => by kernel_rfl) (fun _ => ⟨rfl, rfl⟩) (fun y => by kernel_rfl) (m_ref18_place N) (fun x => by kernel_rfl)
/-! archipelago/archipelagoref18.without -/
noncomputable def ct_ref18_without (N : Nat) : List Ctr := []
def p_ref18_without : Pl := .z
def r_ref18_without : PS := ⟨[(4, .k (.ow 900))], [(900, .arr 34 (.sl (.i .i64)) true)], [(.sl (.sl (.i .i64)))]⟩
noncomputable def m_ref18_without (N : Nat) : (List (List Int)) × Int → Option ((List (List Int))) := exF T ct_ref18_without N (bodyOf Try.f50) 15 p_ref18_without [.h (.sl (.sl (.i .i64))), .h (.i .i64)] [] [(.sl (.sl (.i .i64))), (.i .i64)] r_ref18_without
noncomputable def c_ref18_without (N : Nat) : Ctr := ⟨50, [.h (.sl (.sl (.i .i64))), .h (.i .i64)], [], [(.sl (.sl (.i .i64))), (.i .i64)], Tup r_ref18_without.c, m_ref18_without N, fun y _ k => k (resG T (mkPS 15 r_ref18_without y) Try.f50.results.toList) (keepH' [900] (mkPS 15 r_ref18_without y).h), true, false⟩
theorem m_ref18_without_eq (N : Nat) (l : (List (List Int))) (i : Int) : m_ref18_without (N + 1) (l, i) = obind (subI l (0 : Int) i) fun z1 =>
  obind (appI (24 : Nat) [] z1) fun z2 =>
  obind (subI l (IntKind.wrap .i64 (i + (1 : Int))) (((List.length l) : Nat) : Int)) fun z3 =>
  obind (appI (24 : Nat) z2 z3) fun z4 =>
  some z4 := by kernel_rfl
theorem c_ref18_without_ok (N : Nat) : (c_ref18_without N).ok Try.prog := exF_ok (T := T) (CT := ct_ref18_without) (N := N) (fun M => ⟨tOk, ctAll_nil, mixed⟩) Try.func50 (by kernel_rfl) (by kernel_rfl) p_ref18_without [.h (.sl (.sl (.i .i64))), .h (.i .i64)] [] [(.sl (.sl (.i .i64))), (.i .i64)] r_ref18_without true false [900] (by kernel_rfl) (fun y => by kernel_rfl) (fun h => by cases h) (fun y => by kernel_rfl) (m_ref18_without N) (fun x => by kernel_rfl)
/-! archipelago/archipelagoref18.put -/
noncomputable def ct_ref18_put (N : Nat) : List Ctr := [c_ref13_Plain N]
def i_ref18_put_1 : PS := ⟨[(0, .h (.sl (.sl (.i .i64)))), (1, .k (.ow 900)), (5, .h (.i .i64))], [(900, .arr 3 (.i .i64) true)], [(.sl (.sl (.i .i64))), (.i .i64), (.sl (.i .i64))]⟩
def o_ref18_put_1 : List (Exit × PS) := [((.exit 0), ⟨[(0, .h (.sl (.sl (.i .i64)))), (1, .k (.ow 900)), (5, .h (.i .i64))], [(900, .arr 3 (.i .i64) true)], [(.sl (.sl (.i .i64))), (.i .i64), (.sl (.i .i64))]⟩)]
def p_ref18_put_1 : Pl := .z
noncomputable def l_ref18_put_1 (N : Nat) : Nat → (List (List Int)) × Int × (List Int) → Option ((List (List Int)) × Int × (List Int)) := loopF (exC T (ct_ref18_put N) N (codeAt [1, 1, 1, 0, 0, 0] (bodyOf Try.f51))) 38 i_ref18_put_1 o_ref18_put_1 p_ref18_put_1
def p_ref18_put : Pl := (.n .z (.n .z (.n .z (.n (.n (.loop i_ref18_put_1 o_ref18_put_1 p_ref18_put_1) .z) .z))))
def r_ref18_put : PS := ⟨[(4, .k (.ow 900))], [(900, .arr 34 (.sl (.i .i64)) true)], [(.sl (.sl (.i .i64)))]⟩
noncomputable def m_ref18_put (N : Nat) : (List (List Int)) × (List Int) → Option ((List (List Int))) := exF T ct_ref18_put N (bodyOf Try.f51) 38 p_ref18_put [.h (.sl (.sl (.i .i64))), .h (.sl (.i .i64))] [] [(.sl (.sl (.i .i64))), (.sl (.i .i64))] r_ref18_put
noncomputable def c_ref18_put (N : Nat) : Ctr := ⟨51, [.h (.sl (.sl (.i .i64))), .h (.sl (.i .i64))], [], [(.sl (.sl (.i .i64))), (.sl (.i .i64))], Tup r_ref18_put.c, m_ref18_put N, fun y _ k => k (resG T (mkPS 38 r_ref18_put y) Try.f51.results.toList) (keepH' [900] (mkPS 38 r_ref18_put y).h), true, false⟩
theorem l_ref18_put_1_z (N : Nat) (v : (List (List Int)) × Int × (List Int)) : l_ref18_put_1 N 0 v = none := by kernel_rfl
theorem l_ref18_put_1_s (N m : Nat) (l : (List (List Int))) (k : Int) (r : (List Int)) : l_ref18_put_1 N (m + 1) (l, k, r) = cond (decide (k < (((List.length l) : Nat) : Int)))
   (obind (nthI l k) fun z1 =>
    obind (nthI z1 (0 : Int)) fun z2 =>
    obind (nthI r (0 : Int)) fun z3 =>
    obind (nthI r (0 : Int)) fun z4 =>
    cond (decide (z2 < z4))
     ((l_ref18_put_1 N m (l, ((IntKind.wrap .i64 (k + (1 : Int))), r))))
     (some (l, (k, r))))
   (some (l, (k, r))) := by kernel_rfl
theorem m_ref18_put_eq (N : Nat) (l : (List (List Int))) (r : (List Int)) : m_ref18_put (N + 1) (l, r) = obind (m_ref13_Plain N r) fun z1 =>
  obind (l_ref18_put_1 N N (l, ((0 : Int), z1))) fun z2 =>
  obind (subI z2.1 (0 : Int) z2.2.1) fun z3 =>
  obind (appI (24 : Nat) [] z3) fun z4 =>
  obind (appI (24 : Nat) z4 [z2.2.2]) fun z5 =>
  obind (subI z2.1 z2.2.1 (((List.length z2.1) : Nat) : Int)) fun z6 =>
  obind (appI (24 : Nat) z5 z6) fun z7 =>
  some z7 := by kernel_rfl
theorem c_ref18_put_ok (N : Nat) : (c_ref18_put N).ok Try.prog := exF_ok (T := T) (CT := ct_ref18_put) (N := N) (fun M => ⟨tOk, (ctAll_cons (c_ref13_Plain_ok M) ctAll_nil), mixed⟩) Try.func51 (by kernel_rfl) (by kernel_rfl) p_ref18_put [.h (.sl (.sl (.i .i64))), .h (.sl (.i .i64))] [] [(.sl (.sl (.i .i64))), (.sl (.i .i64))] r_ref18_put true false [900] (by kernel_rfl) (fun y => by kernel_rfl) (fun h => by cases h) (fun y => by kernel_rfl) (m_ref18_put N) (fun x => by kernel_rfl)
/-! archipelago/archipelagoref18.Link -/
noncomputable def ct_ref18_Link (N : Nat) : List Ctr := [c_ref18_Right N, c_ref18_in N, c_ref18_place N, c_ref13_From N, c_ref18_Arc N, c_ref18_without N, c_ref18_put N]
def p_ref18_Link : Pl := .z
def r_ref18_Link : PS := ⟨[(6, .k (.pt 900 0)), (7, .h (.i .i64))], [(900, .box 24 [.h (.i .i64), .h (.sl (.sl (.i .i64)))])], [(.i .i64), (.i .i64), (.sl (.sl (.i .i64)))]⟩
noncomputable def m_ref18_Link (N : Nat) : Int × (List (List Int)) × Int × Int → Option (Int × Int × (List (List Int))) := exF T ct_ref18_Link N (bodyOf Try.f37) 106 p_ref18_Link [.ag [.h (.i .i64), .h (.sl (.sl (.i .i64)))], .h (.i .i64), .h (.i .i64)] [] [(.i .i64), (.sl (.sl (.i .i64))), (.i .i64), (.i .i64)] r_ref18_Link
noncomputable def c_ref18_Link (N : Nat) : Ctr := ⟨37, [.ag [.h (.i .i64), .h (.sl (.sl (.i .i64)))], .h (.i .i64), .h (.i .i64)], [], [(.i .i64), (.sl (.sl (.i .i64))), (.i .i64), (.i .i64)], Tup r_ref18_Link.c, m_ref18_Link N, fun y _ k => k (resG T (mkPS 106 r_ref18_Link y) Try.f37.results.toList) (keepH' [] (mkPS 106 r_ref18_Link y).h), false, false⟩
theorem m_ref18_Link_eq (N : Nat) (f : Int) (f2 : (List (List Int))) (u : Int) (v : Int) : m_ref18_Link (N + 1) (f, f2, u, v) = obind (m_ref18_Right N (f, f2)) fun z1 =>
  cond (!z1)
   (some ((1 : Int), (f, f2)))
   (obind (m_ref18_in N (f, u)) fun z2 =>
    cond (!z2)
     (some ((10 : Int), (f, f2)))
     (obind (m_ref18_in N (f, v)) fun z3 =>
      cond (!z3)
       (some ((10 : Int), (f, f2)))
       (obind (m_ref18_place N (f, (f2, u))) fun z4 =>
        obind (m_ref18_place N (f, (f2, v))) fun z5 =>
        cond (decide (z4 = z5))
         (some ((5 : Int), (f, f2)))
         (obind (m_ref18_place N (f, (f2, u))) fun z6 =>
          obind (m_ref18_place N (f, (f2, v))) fun z7 =>
          obind (nthI f2 z6) fun z8 =>
          obind (m_ref13_From N (z8, u)) fun z9 =>
          obind (nthI f2 z7) fun z10 =>
          obind (m_ref13_From N (z10, v)) fun z11 =>
          obind (m_ref18_Arc N (f, (u, v))) fun z12 =>
          obind (appI (8 : Nat) [u, z12] z11.2) fun z13 =>
          obind (m_ref18_Arc N (f, (v, u))) fun z14 =>
          obind (appI (8 : Nat) z13 [z14]) fun z15 =>
          obind (subI z9.2 (1 : Int) (((List.length z9.2) : Nat) : Int)) fun z16 =>
          obind (appI (8 : Nat) z15 z16) fun z17 =>
          obind (m_ref18_without N (f2, (if (z7 > z6) then z7 else z6))) fun z18 =>
          obind (m_ref18_without N (z18, (if (z7 < z6) then z7 else z6))) fun z19 =>
          obind (m_ref18_put N (z19, z17)) fun z20 =>
          some ((0 : Int), (f, z20)))))) := by kernel_rfl
theorem c_ref18_Link_ok (N : Nat) : (c_ref18_Link N).ok Try.prog := exF_ok (T := T) (CT := ct_ref18_Link) (N := N) (fun M => ⟨tOk, (ctAll_cons (c_ref18_Right_ok M) (ctAll_cons (c_ref18_in_ok M) (ctAll_cons (c_ref18_place_ok M) (ctAll_cons (c_ref13_From_ok M) (ctAll_cons (c_ref18_Arc_ok M) (ctAll_cons (c_ref18_without_ok M) (ctAll_cons (c_ref18_put_ok M) ctAll_nil))))))), mixed⟩) Try.func37 (by kernel_rfl) (by kernel_rfl) p_ref18_Link [.ag [.h (.i .i64), .h (.sl (.sl (.i .i64)))], .h (.i .i64), .h (.i .i64)] [] [(.i .i64), (.sl (.sl (.i .i64))), (.i .i64), (.i .i64)] r_ref18_Link false false [] (by kernel_rfl) (fun y => by kernel_rfl) (fun _ => ⟨rfl, rfl⟩) (fun y => by kernel_rfl) (m_ref18_Link N) (fun x => by kernel_rfl)
/-! archipelago/archipelagoref19.Links -/
noncomputable def ct_ref19_Links (N : Nat) : List Ctr := [c_ref19_there N, c_ref18_Link N]
def i_ref19_Links_1 : PS := ⟨[(1, .h (.sl (.pr (.i .i64) (.i .i64)))), (2, .k (.pt 900 0)), (4, .k (.pt 901 0)), (8, .k (.ow 902)), (9, .h (.i .i64))], [(900, .box 24 [.h (.i .i64), .h (.sl (.sl (.i .i64)))]), (901, .box 24 [.h (.i .i64), .k .nil]), (902, .arr 4 .b true)], [(.sl (.pr (.i .i64) (.i .i64))), (.i .i64), (.i .i64), (.sl (.sl (.i .i64))), (.i .i64), (.sl .b)]⟩
def o_ref19_Links_1 : List (Exit × PS) := [((.exit 0), ⟨[(2, .k (.pt 900 0)), (4, .k (.pt 901 0)), (8, .k (.ow 902))], [(900, .box 24 [.h (.i .i64), .h (.sl (.sl (.i .i64)))]), (901, .box 24 [.h (.i .i64), .k .nil]), (902, .arr 4 .b true)], [(.i .i64), (.sl (.sl (.i .i64))), (.i .i64), (.sl .b)]⟩)]
def p_ref19_Links_1 : Pl := .z
noncomputable def l_ref19_Links_1 (N : Nat) : Nat → (List (Int × Int)) × Int × Int × (List (List Int)) × Int × (List Bool) → Option (Int × (List (List Int)) × Int × (List Bool)) := loopF (exC T (ct_ref19_Links N) N (codeAt [1, 1, 1, 1, 0, 1, 0, 0] (bodyOf Try.f26))) 48 i_ref19_Links_1 o_ref19_Links_1 p_ref19_Links_1
def p_ref19_Links : Pl := (.n .z (.n .z (.n .z (.n .z (.n (.n .z (.n (.loop i_ref19_Links_1 o_ref19_Links_1 p_ref19_Links_1) .z)) .z)))))
def r_ref19_Links : PS := ⟨[(4, .k (.pt 900 0)), (5, .k (.ow 901)), (6, .h (.i .i64))], [(900, .box 24 [.h (.i .i64), .h (.sl (.sl (.i .i64)))]), (901, .arr 4 .b true)], [(.i .i64), (.i .i64), (.sl (.sl (.i .i64))), (.sl .b)]⟩
noncomputable def m_ref19_Links (N : Nat) : Int × (List (List Int)) × (List (Int × Int)) → Option (Int × Int × (List (List Int)) × (List Bool)) := exF T ct_ref19_Links N (bodyOf Try.f26) 48 p_ref19_Links [.ag [.h (.i .i64), .h (.sl (.sl (.i .i64)))], .h (.sl (.pr (.i .i64) (.i .i64)))] [] [(.i .i64), (.sl (.sl (.i .i64))), (.sl (.pr (.i .i64) (.i .i64)))] r_ref19_Links
noncomputable def c_ref19_Links (N : Nat) : Ctr := ⟨26, [.ag [.h (.i .i64), .h (.sl (.sl (.i .i64)))], .h (.sl (.pr (.i .i64) (.i .i64)))], [], [(.i .i64), (.sl (.sl (.i .i64))), (.sl (.pr (.i .i64) (.i .i64)))], Tup r_ref19_Links.c, m_ref19_Links N, fun y _ k => k (resG T (mkPS 48 r_ref19_Links y) Try.f26.results.toList) (keepH' [901] (mkPS 48 r_ref19_Links y).h), true, false⟩
theorem l_ref19_Links_1_z (N : Nat) (v : (List (Int × Int)) × Int × Int × (List (List Int)) × Int × (List Bool)) : l_ref19_Links_1 N 0 v = none := by kernel_rfl
theorem l_ref19_Links_1_s (N m : Nat) (l : (List (Int × Int))) (i : Int) (f : Int) (f2 : (List (List Int))) (v4 : Int) (out : (List Bool)) : l_ref19_Links_1 N (m + 1) (l, i, f, f2, v4, out) = cond (decide (i < (((List.length l) : Nat) : Int)))
   (obind (nthI l i) fun z1 =>
    obind (nthI l i) fun z2 =>
    obind (m_ref18_Link N (f, (f2, (z1.1, z2.2)))) fun z3 =>
    obind (appI (1 : Nat) out [(decide (z3.1 = (0 : Int)))]) fun z4 =>
    (l_ref19_Links_1 N m (l, ((IntKind.wrap .i64 (i + (1 : Int))), (z3.2.1, (z3.2.2, (v4, z4)))))))
   (some (f, (f2, (v4, out)))) := by kernel_rfl
theorem m_ref19_Links_eq (N : Nat) (f : Int) (f2 : (List (List Int))) (l : (List (Int × Int))) : m_ref19_Links (N + 1) (f, f2, l) = obind (m_ref19_there N (f, (f2, l))) fun z1 =>
  cond (!(decide (z1 = (0 : Int))))
   (some (z1, (f, (f2, []))))
   (obind (l_ref19_Links_1 N N (l, ((0 : Int), (f, (f2, ((0 : Int), [])))))) fun z2 =>
    some ((0 : Int), (z2.1, (z2.2.1, z2.2.2.2)))) := by kernel_rfl
theorem c_ref19_Links_ok (N : Nat) : (c_ref19_Links N).ok Try.prog := exF_ok (T := T) (CT := ct_ref19_Links) (N := N) (fun M => ⟨tOk, (ctAll_cons (c_ref19_there_ok M) (ctAll_cons (c_ref18_Link_ok M) ctAll_nil)), mixed⟩) Try.func26 (by kernel_rfl) (by kernel_rfl) p_ref19_Links [.ag [.h (.i .i64), .h (.sl (.sl (.i .i64)))], .h (.sl (.pr (.i .i64) (.i .i64)))] [] [(.i .i64), (.sl (.sl (.i .i64))), (.sl (.pr (.i .i64) (.i .i64)))] r_ref19_Links true false [901] (by kernel_rfl) (fun y => by kernel_rfl) (fun h => by cases h) (fun y => by kernel_rfl) (m_ref19_Links N) (fun x => by kernel_rfl)
/-! archipelago/archipelagoref19.Of -/
noncomputable def ct_ref19_Of (N : Nat) : List Ctr := [c_ref18_Make N, c_ref19_Links N]
def p_ref19_Of : Pl := .z
def r_ref19_Of : PS := ⟨[(4, .k (.pt 900 0)), (5, .h (.i .i64))], [(900, .box 24 [.h (.i .i64), .h (.sl (.sl (.i .i64)))])], [(.i .i64), (.i .i64), (.sl (.sl (.i .i64)))]⟩
noncomputable def m_ref19_Of (N : Nat) : Int × (List (Int × Int)) → Option (Int × Int × (List (List Int))) := exF T ct_ref19_Of N (bodyOf Try.f23) 31 p_ref19_Of [.h (.i .i64), .h (.sl (.pr (.i .i64) (.i .i64)))] [] [(.i .i64), (.sl (.pr (.i .i64) (.i .i64)))] r_ref19_Of
noncomputable def c_ref19_Of (N : Nat) : Ctr := ⟨23, [.h (.i .i64), .h (.sl (.pr (.i .i64) (.i .i64)))], [], [(.i .i64), (.sl (.pr (.i .i64) (.i .i64)))], Tup r_ref19_Of.c, m_ref19_Of N, fun y _ k => k (resG T (mkPS 31 r_ref19_Of y) Try.f23.results.toList) (keepH' [] (mkPS 31 r_ref19_Of y).h), false, false⟩
theorem m_ref19_Of_eq (N : Nat) (n : Int) (l : (List (Int × Int))) : m_ref19_Of (N + 1) (n, l) = obind (m_ref18_Make N n) fun z1 =>
  cond (!(decide (z1.1 = (0 : Int))))
   (some (z1.1, ((0 : Int), [])))
   (obind (m_ref19_Links N (z1.2.1, (z1.2.2, l))) fun z2 =>
    cond (!(decide (z2.1 = (0 : Int))))
     (some (z2.1, ((0 : Int), [])))
     (some ((0 : Int), (z2.2.1, z2.2.2.1)))) := by kernel_rfl
theorem c_ref19_Of_ok (N : Nat) : (c_ref19_Of N).ok Try.prog := exF_ok (T := T) (CT := ct_ref19_Of) (N := N) (fun M => ⟨tOk, (ctAll_cons (c_ref18_Make_ok M) (ctAll_cons (c_ref19_Links_ok M) ctAll_nil)), mixed⟩) Try.func23 (by kernel_rfl) (by kernel_rfl) p_ref19_Of [.h (.i .i64), .h (.sl (.pr (.i .i64) (.i .i64)))] [] [(.i .i64), (.sl (.pr (.i .i64) (.i .i64)))] r_ref19_Of false false [] (by kernel_rfl) (fun y => by kernel_rfl) (fun _ => ⟨rfl, rfl⟩) (fun y => by kernel_rfl) (m_ref19_Of N) (fun x => by kernel_rfl)
/-! archipelago/tour.sized -/
noncomputable def ct_tour_sized (N : Nat) : List Ctr := []
def p_tour_sized : Pl := .z
def r_tour_sized : PS := ⟨[(2, .h .b)], [], [.b]⟩
noncomputable def m_tour_sized (N : Nat) : Int → Option (Bool) := exF T ct_tour_sized N (bodyOf Try.f38) 9 p_tour_sized [.h (.i .i64)] [] [(.i .i64)] r_tour_sized
noncomputable def c_tour_sized (N : Nat) : Ctr := ⟨38, [.h (.i .i64)], [], [(.i .i64)], Tup r_tour_sized.c, m_tour_sized N, fun y _ k => k (resG T (mkPS 9 r_tour_sized y) Try.f38.results.toList) (keepH' [] (mkPS 9 r_tour_sized y).h), false, true⟩
theorem m_tour_sized_eq (N : Nat) (n : Int) : m_tour_sized (N + 1) (n) = cond (decide ((1 : Int) ≤ n))
   (some (decide (n ≤ (64 : Int))))
   (some false) := by kernel_rfl
theorem c_tour_sized_ok (N : Nat) : (c_tour_sized N).ok Try.prog := exF_ok (T := T) (CT := ct_tour_sized) (N := N) (fun M => ⟨tOk, ctAll_nil, mixed⟩) Try.func38 (by kernel_rfl) (by kernel_rfl) p_tour_sized [.h (.i .i64)] [] [(.i .i64)] r_tour_sized false true [] (by kernel_rfl) (fun y => by kernel_rfl) (fun _ => ⟨rfl, rfl⟩) (fun y => by kernel_rfl) (m_tour_sized N) (fun x => by kernel_rfl)
/-! archipelago/ring.Right$1 -/
noncomputable def ct_ring_RightF1 (N : Nat) : List Ctr := []
def p_ring_RightF1 : Pl := .z
def r_ring_RightF1 : PS := ⟨[(2, .h .b)], [], [.b]⟩
noncomputable def m_ring_RightF1 (N : Nat) : Int → Option (Bool) := exF T ct_ring_RightF1 N (bodyOf Try.f52) 9 p_ring_RightF1 [.h (.i .i64)] [] [(.i .i64)] r_ring_RightF1
noncomputable def c_ring_RightF1 (N : Nat) : Ctr := ⟨52, [.h (.i .i64)], [], [(.i .i64)], Tup r_ring_RightF1.c, m_ring_RightF1 N, fun y _ k => k (resG T (mkPS 9 r_ring_RightF1 y) Try.f52.results.toList) (keepH' [] (mkPS 9 r_ring_RightF1 y).h), false, true⟩
theorem m_ring_RightF1_eq (N : Nat) (t : Int) : m_ring_RightF1 (N + 1) (t) = cond (decide (t < (0 : Int)))
   (some true)
   (some (decide ((10000 : Int) < t))) := by kernel_rfl
theorem c_ring_RightF1_ok (N : Nat) : (c_ring_RightF1 N).ok Try.prog := exF_ok (T := T) (CT := ct_ring_RightF1) (N := N) (fun M => ⟨tOk, ctAll_nil, mixed⟩) Try.func52 (by kernel_rfl) (by kernel_rfl) p_ring_RightF1 [.h (.i .i64)] [] [(.i .i64)] r_ring_RightF1 false true [] (by kernel_rfl) (fun y => by kernel_rfl) (fun _ => ⟨rfl, rfl⟩) (fun y => by kernel_rfl) (m_ring_RightF1 N) (fun x => by kernel_rfl)
/-! slices.IndexFunc[[]int,int] -/
noncomputable def ct_slices_IndexFunc_Lint_int_ring_RightF1 (N : Nat) : List Ctr := [c_ring_RightF1 N]
def i_slices_IndexFunc_Lint_int_ring_RightF1_1 : PS := ⟨[(0, .h (.sl (.i .i64))), (1, .k (.v (.func (.func 52) #[] #[]))), (7, .h (.i .i64)), (8, .h (.i .i64))], [], [(.sl (.i .i64)), (.i .i64), (.i .i64)]⟩
def o_slices_IndexFunc_Lint_int_ring_RightF1_1 : List (Exit × PS) := [((.exit 0), ⟨[], [], []⟩), (.ret, ⟨[(4, .h (.i .i64))], [], [(.i .i64)]⟩)]
def p_slices_IndexFunc_Lint_int_ring_RightF1_1 : Pl := .z
noncomputable def l_slices_IndexFunc_Lint_int_ring_RightF1_1 (N : Nat) : Nat → (List Int) × Int × Int → Option ((Unit) ⊕ (Int)) := loopF (exC T (ct_slices_IndexFunc_Lint_int_ring_RightF1 N) N (codeAt [1, 0, 1, 0, 0] (bodyOf Try.f66))) 19 i_slices_IndexFunc_Lint_int_ring_RightF1_1 o_slices_IndexFunc_Lint_int_ring_RightF1_1 p_slices_IndexFunc_Lint_int_ring_RightF1_1
def p_slices_IndexFunc_Lint_int_ring_RightF1 : Pl := (.n .z (.n (.n .z (.n (.loop i_slices_IndexFunc_Lint_int_ring_RightF1_1 o_slices_IndexFunc_Lint_int_ring_RightF1_1 p_slices_IndexFunc_Lint_int_ring_RightF1_1) .z)) .z))
def r_slices_IndexFunc_Lint_int_ring_RightF1 : PS := ⟨[(4, .h (.i .i64))], [], [(.i .i64)]⟩
noncomputable def m_slices_IndexFunc_Lint_int_ring_RightF1 (N : Nat) : (List Int) → Option (Int) := exF T ct_slices_IndexFunc_Lint_int_ring_RightF1 N (bodyOf Try.f66) 19 p_slices_IndexFunc_Lint_int_ring_RightF1 [.h (.sl (.i .i64)), .k (.v (.func (.func 52) #[] #[]))] [] [(.sl (.i .i64))] r_slices_IndexFunc_Lint_int_ring_RightF1
noncomputable def c_slices_IndexFunc_Lint_int_ring_RightF1 (N : Nat) : Ctr := ⟨66, [.h (.sl (.i .i64)), .k (.v (.func (.func 52) #[] #[]))], [], [(.sl (.i .i64))], Tup r_slices_IndexFunc_Lint_int_ring_RightF1.c, m_slices_IndexFunc_Lint_int_ring_RightF1 N, fun y _ k => k (resG T (mkPS 19 r_slices_IndexFunc_Lint_int_ring_RightF1 y) Try.f66.results.toList) (keepH' [] (mkPS 19 r_slices_IndexFunc_Lint_int_ring_RightF1 y).h), false, true⟩
theorem l_slices_IndexFunc_Lint_int_ring_RightF1_1_z (N : Nat) (v : (List Int) × Int × Int) : l_slices_IndexFunc_Lint_int_ring_RightF1_1 N 0 v = none := by kernel_rfl
theorem l_slices_IndexFunc_Lint_int_ring_RightF1_1_s (N m : Nat) (s : (List Int)) (v7 : Int) (v8 : Int) : l_slices_IndexFunc_Lint_int_ring_RightF1_1 N (m + 1) (s, v7, v8) = cond (decide (v8 < v7))
   (obind (nthI s v8) fun z1 =>
    obind (m_ring_RightF1 N z1) fun z2 =>
    cond z2
     (some (.inr v8))
     ((l_slices_IndexFunc_Lint_int_ring_RightF1_1 N m (s, (v7, (IntKind.wrap .i64 (v8 + (1 : Int))))))))
   (some (.inl ())) := by kernel_rfl
theorem m_slices_IndexFunc_Lint_int_ring_RightF1_eq (N : Nat) (s : (List Int)) : m_slices_IndexFunc_Lint_int_ring_RightF1 (N + 1) (s) = obind (l_slices_IndexFunc_Lint_int_ring_RightF1_1 N N (s, ((((List.length s) : Nat) : Int), (0 : Int)))) fun z1 =>
  (match z1 with
  | .inl zy2 => some (-(1 : Int))
  | .inr zy3 => some zy3) := by kernel_rfl
theorem c_slices_IndexFunc_Lint_int_ring_RightF1_ok (N : Nat) : (c_slices_IndexFunc_Lint_int_ring_RightF1 N).ok Try.prog := exF_ok (T := T) (CT := ct_slices_IndexFunc_Lint_int_ring_RightF1) (N := N) (fun M => ⟨tOk, (ctAll_cons (c_ring_RightF1_ok M) ctAll_nil), mixed⟩) Try.func66 (by kernel_rfl) (by kernel_rfl) p_slices_IndexFunc_Lint_int_ring_RightF1 [.h (.sl (.i .i64)), .k (.v (.func (.func 52) #[] #[]))] [] [(.sl (.i .i64))] r_slices_IndexFunc_Lint_int_ring_RightF1 false true [] (by kernel_rfl) (fun y => by kernel_rfl) (fun _ => ⟨rfl, rfl⟩) (fun y => by kernel_rfl) (m_slices_IndexFunc_Lint_int_ring_RightF1 N) (fun x => by kernel_rfl)
/-! slices.ContainsFunc[[]int,int] -/
noncomputable def ct_slices_ContainsFunc_Lint_int_ring_RightF1 (N : Nat) : List Ctr := [c_slices_IndexFunc_Lint_int_ring_RightF1 N]
def p_slices_ContainsFunc_Lint_int_ring_RightF1 : Pl := .z
def r_slices_ContainsFunc_Lint_int_ring_RightF1 : PS := ⟨[(4, .h .b)], [], [.b]⟩
noncomputable def m_slices_ContainsFunc_Lint_int_ring_RightF1 (N : Nat) : (List Int) → Option (Bool) := exF T ct_slices_ContainsFunc_Lint_int_ring_RightF1 N (bodyOf Try.f53) 9 p_slices_ContainsFunc_Lint_int_ring_RightF1 [.h (.sl (.i .i64)), .k (.v (.func (.func 52) #[] #[]))] [] [(.sl (.i .i64))] r_slices_ContainsFunc_Lint_int_ring_RightF1
noncomputable def c_slices_ContainsFunc_Lint_int_ring_RightF1 (N : Nat) : Ctr := ⟨53, [.h (.sl (.i .i64)), .k (.v (.func (.func 52) #[] #[]))], [], [(.sl (.i .i64))], Tup r_slices_ContainsFunc_Lint_int_ring_RightF1.c, m_slices_ContainsFunc_Lint_int_ring_RightF1 N, fun y _ k => k (resG T (mkPS 9 r_slices_ContainsFunc_Lint_int_ring_RightF1 y) Try.f53.results.toList) (keepH' [] (mkPS 9 r_slices_ContainsFunc_Lint_int_ring_RightF1 y).h), false, true⟩
theorem m_slices_ContainsFunc_Lint_int_ring_RightF1_eq (N : Nat) (s : (List Int)) : m_slices_ContainsFunc_Lint_int_ring_RightF1 (N + 1) (s) = obind (m_slices_IndexFunc_Lint_int_ring_RightF1 N s) fun z1 =>
  some (decide ((0 : Int) ≤ z1)) := by kernel_rfl
theorem c_slices_ContainsFunc_Lint_int_ring_RightF1_ok (N : Nat) : (c_slices_ContainsFunc_Lint_int_ring_RightF1 N).ok Try.prog := exF_ok (T := T) (CT := ct_slices_ContainsFunc_Lint_int_ring_RightF1) (N := N) (fun M => ⟨tOk, (ctAll_cons (c_slices_IndexFunc_Lint_int_ring_RightF1_ok M) ctAll_nil), mixed⟩) Try.func53 (by kernel_rfl) (by kernel_rfl) p_slices_ContainsFunc_Lint_int_ring_RightF1 [.h (.sl (.i .i64)), .k (.v (.func (.func 52) #[] #[]))] [] [(.sl (.i .i64))] r_slices_ContainsFunc_Lint_int_ring_RightF1 false true [] (by kernel_rfl) (fun y => by kernel_rfl) (fun _ => ⟨rfl, rfl⟩) (fun y => by kernel_rfl) (m_slices_ContainsFunc_Lint_int_ring_RightF1 N) (fun x => by kernel_rfl)
/-! archipelago/ring.once[int] -/
noncomputable def ct_ring_once_int (N : Nat) : List Ctr := []
def i_ring_once_int_1 : PS := ⟨[(0, .h (.sl (.i .i64))), (3, .k (.mp 900)), (7, .h (.sl (.i .i64))), (8, .h (.i .i64)), (9, .h (.i .i64))], [(900, .mp (.int .i64) (.i .i64) (.i .i64))], [(.sl (.i .i64)), (.sl (.i .i64)), (.i .i64), (.i .i64), (.sl (.pr (.i .i64) (.i .i64)))]⟩
def o_ring_once_int_1 : List (Exit × PS) := [((.exit 0), ⟨[(0, .h (.sl (.i .i64))), (3, .k (.mp 900))], [(900, .mp (.int .i64) (.i .i64) (.i .i64))], [(.sl (.i .i64)), (.sl (.pr (.i .i64) (.i .i64)))]⟩)]
def p_ring_once_int_1 : Pl := .z
noncomputable def l_ring_once_int_1 (N : Nat) : Nat → (List Int) × (List Int) × Int × Int × (List (Int × Int)) → Option ((List Int) × (List (Int × Int))) := loopF (exC T (ct_ring_once_int N) N (codeAt [1, 1, 0, 1, 0, 0] (bodyOf Try.f54))) 23 i_ring_once_int_1 o_ring_once_int_1 p_ring_once_int_1
def p_ring_once_int : Pl := (.n .z (.n .z (.n (.n .z (.n (.loop i_ring_once_int_1 o_ring_once_int_1 p_ring_once_int_1) .z)) .z)))
def r_ring_once_int : PS := ⟨[(2, .h .b)], [], [.b]⟩
noncomputable def m_ring_once_int (N : Nat) : (List Int) → Option (Bool) := exF T ct_ring_once_int N (bodyOf Try.f54) 23 p_ring_once_int [.h (.sl (.i .i64))] [] [(.sl (.i .i64))] r_ring_once_int
noncomputable def c_ring_once_int (N : Nat) : Ctr := ⟨54, [.h (.sl (.i .i64))], [], [(.sl (.i .i64))], Tup r_ring_once_int.c, m_ring_once_int N, fun y _ k => k (resG T (mkPS 23 r_ring_once_int y) Try.f54.results.toList) (keepH' [] (mkPS 23 r_ring_once_int y).h), false, true⟩
theorem l_ring_once_int_1_z (N : Nat) (v : (List Int) × (List Int) × Int × Int × (List (Int × Int))) : l_ring_once_int_1 N 0 v = none := by kernel_rfl
theorem l_ring_once_int_1_s (N m : Nat) (l : (List Int)) (v7 : (List Int)) (v8 : Int) (v9 : Int) (met : (List (Int × Int))) : l_ring_once_int_1 N (m + 1) (l, v7, v8, v9, met) = cond (decide (v9 < v8))
   (obind (nthI v7 v9) fun z1 =>
    (l_ring_once_int_1 N m (l, (v7, (v8, ((IntKind.wrap .i64 (v9 + (1 : Int))), (mput (.i .i64) met z1 (IntKind.wrap .i64 ((Option.getD (mget (.i .i64) met z1) (0 : Int)) + (1 : Int))))))))))
   (some (l, met)) := by kernel_rfl
theorem m_ring_once_int_eq (N : Nat) (l : (List Int)) : m_ring_once_int (N + 1) (l) = obind (l_ring_once_int_1 N N (l, (l, ((((List.length l) : Nat) : Int), ((0 : Int), []))))) fun z1 =>
  some (decide ((((List.length z1.2) : Nat) : Int) = (((List.length z1.1) : Nat) : Int))) := by kernel_rfl
theorem c_ring_once_int_ok (N : Nat) : (c_ring_once_int N).ok Try.prog := exF_ok (T := T) (CT := ct_ring_once_int) (N := N) (fun M => ⟨tOk, ctAll_nil, mixed⟩) Try.func54 (by kernel_rfl) (by kernel_rfl) p_ring_once_int [.h (.sl (.i .i64))] [] [(.sl (.i .i64))] r_ring_once_int false true [] (by kernel_rfl) (fun y => by kernel_rfl) (fun _ => ⟨rfl, rfl⟩) (fun y => by kernel_rfl) (m_ring_once_int N) (fun x => by kernel_rfl)
/-! archipelago/ring.Right -/
noncomputable def ct_ring_Right (N : Nat) : List Ctr := [c_slices_ContainsFunc_Lint_int_ring_RightF1 N, c_ring_once_int N]
def p_ring_Right : Pl := .z
def r_ring_Right : PS := ⟨[(2, .h .b)], [], [.b]⟩
noncomputable def m_ring_Right (N : Nat) : (List Int) → Option (Bool) := exF T ct_ring_Right N (bodyOf Try.f39) 15 p_ring_Right [.h (.sl (.i .i64))] [] [(.sl (.i .i64))] r_ring_Right
noncomputable def c_ring_Right (N : Nat) : Ctr := ⟨39, [.h (.sl (.i .i64))], [], [(.sl (.i .i64))], Tup r_ring_Right.c, m_ring_Right N, fun y _ k => k (resG T (mkPS 15 r_ring_Right y) Try.f39.results.toList) (keepH' [] (mkPS 15 r_ring_Right y).h), false, true⟩
theorem m_ring_Right_eq (N : Nat) (l : (List Int)) : m_ring_Right (N + 1) (l) = cond (decide ((1000 : Int) < (((List.length l) : Nat) : Int)))
   (some false)
   (obind (m_slices_ContainsFunc_Lint_int_ring_RightF1 N l) fun z1 =>
    cond (!z1)
     (obind (m_ring_once_int N l) fun z2 =>
      some z2)
     (some false)) := by kernel_rfl
theorem c_ring_Right_ok (N : Nat) : (c_ring_Right N).ok Try.prog := exF_ok (T := T) (CT := ct_ring_Right) (N := N) (fun M => ⟨tOk, (ctAll_cons (c_slices_ContainsFunc_Lint_int_ring_RightF1_ok M) (ctAll_cons (c_ring_once_int_ok M) ctAll_nil)), mixed⟩) Try.func39 (by kernel_rfl) (by kernel_rfl) p_ring_Right [.h (.sl (.i .i64))] [] [(.sl (.i .i64))] r_ring_Right false true [] (by kernel_rfl) (fun y => by kernel_rfl) (fun _ => ⟨rfl, rfl⟩) (fun y => by kernel_rfl) (m_ring_Right N) (fun x => by kernel_rfl)
/-! slices.Min[[]int,int] -/
noncomputable def ct_slices_Min_Lint_int (N : Nat) : List Ctr := []
def i_slices_Min_Lint_int_1 : PS := ⟨[(0, .h (.sl (.i .i64))), (3, .h (.i .i64)), (4, .h (.i .i64))], [], [(.sl (.i .i64)), (.i .i64), (.i .i64)]⟩
def o_slices_Min_Lint_int_1 : List (Exit × PS) := [((.exit 0), ⟨[(3, .h (.i .i64))], [], [(.i .i64)]⟩)]
def p_slices_Min_Lint_int_1 : Pl := .z
noncomputable def l_slices_Min_Lint_int_1 (N : Nat) : Nat → (List Int) × Int × Int → Option (Int) := loopF (exC T (ct_slices_Min_Lint_int N) N (codeAt [1, 1, 1, 0, 1, 0, 0] (bodyOf Try.f40))) 25 i_slices_Min_Lint_int_1 o_slices_Min_Lint_int_1 p_slices_Min_Lint_int_1
def p_slices_Min_Lint_int : Pl := (.n .z (.n .z (.n .z (.n (.n .z (.n (.loop i_slices_Min_Lint_int_1 o_slices_Min_Lint_int_1 p_slices_Min_Lint_int_1) .z)) .z))))
def r_slices_Min_Lint_int : PS := ⟨[(2, .h (.i .i64))], [], [(.i .i64)]⟩
noncomputable def m_slices_Min_Lint_int (N : Nat) : (List Int) → Option (Int) := exF T ct_slices_Min_Lint_int N (bodyOf Try.f40) 25 p_slices_Min_Lint_int [.h (.sl (.i .i64))] [] [(.sl (.i .i64))] r_slices_Min_Lint_int
noncomputable def c_slices_Min_Lint_int (N : Nat) : Ctr := ⟨40, [.h (.sl (.i .i64))], [], [(.sl (.i .i64))], Tup r_slices_Min_Lint_int.c, m_slices_Min_Lint_int N, fun y _ k => k (resG T (mkPS 25 r_slices_Min_Lint_int y) Try.f40.results.toList) (keepH' [] (mkPS 25 r_slices_Min_Lint_int y).h), false, true⟩
theorem l_slices_Min_Lint_int_1_z (N : Nat) (v : (List Int) × Int × Int) : l_slices_Min_Lint_int_1 N 0 v = none := by kernel_rfl
theorem l_slices_Min_Lint_int_1_s (N m : Nat) (x : (List Int)) (v3 : Int) (i : Int) : l_slices_Min_Lint_int_1 N (m + 1) (x, v3, i) = cond (decide (i < (((List.length x) : Nat) : Int)))
   (obind (nthI x i) fun z1 =>
    (l_slices_Min_Lint_int_1 N m (x, ((if (z1 < v3) then z1 else v3), (IntKind.wrap .i64 (i + (1 : Int)))))))
   (some v3) := by kernel_rfl
theorem m_slices_Min_Lint_int_eq (N : Nat) (x : (List Int)) : m_slices_Min_Lint_int (N + 1) (x) = cond (decide ((((List.length x) : Nat) : Int) < (1 : Int)))
   (none)
   (obind (nthI x (0 : Int)) fun z1 =>
    obind (l_slices_Min_Lint_int_1 N N (x, (z1, (1 : Int)))) fun z2 =>
    some z2) := by kernel_rfl
theorem c_slices_Min_Lint_int_ok (N : Nat) : (c_slices_Min_Lint_int N).ok Try.prog := exF_ok (T := T) (CT := ct_slices_Min_Lint_int) (N := N) (fun M => ⟨tOk, ctAll_nil, mixed⟩) Try.func40 (by kernel_rfl) (by kernel_rfl) p_slices_Min_Lint_int [.h (.sl (.i .i64))] [] [(.sl (.i .i64))] r_slices_Min_Lint_int false true [] (by kernel_rfl) (fun y => by kernel_rfl) (fun _ => ⟨rfl, rfl⟩) (fun y => by kernel_rfl) (m_slices_Min_Lint_int N) (fun x => by kernel_rfl)
/-! archipelago/tour.in -/
noncomputable def ct_tour_in (N : Nat) : List Ctr := [c_tour_sized N]
def p_tour_in : Pl := .z
def r_tour_in : PS := ⟨[(4, .h .b)], [], [.b]⟩
noncomputable def m_tour_in (N : Nat) : Int × Int → Option (Bool) := exF T ct_tour_in N (bodyOf Try.f55) 16 p_tour_in [.h (.i .i64), .h (.i .i64)] [] [(.i .i64), (.i .i64)] r_tour_in
noncomputable def c_tour_in (N : Nat) : Ctr := ⟨55, [.h (.i .i64), .h (.i .i64)], [], [(.i .i64), (.i .i64)], Tup r_tour_in.c, m_tour_in N, fun y _ k => k (resG T (mkPS 16 r_tour_in y) Try.f55.results.toList) (keepH' [] (mkPS 16 r_tour_in y).h), false, true⟩
theorem m_tour_in_eq (N : Nat) (n : Int) (v : Int) : m_tour_in (N + 1) (n, v) = obind (m_tour_sized N n) fun z1 =>
  cond z1
   (cond (decide ((0 : Int) ≤ v))
     (some (decide (v < n)))
     (some false))
   (some false) := by kernel_rfl
theorem c_tour_in_ok (N : Nat) : (c_tour_in N).ok Try.prog := exF_ok (T := T) (CT := ct_tour_in) (N := N) (fun M => ⟨tOk, (ctAll_cons (c_tour_sized_ok M) ctAll_nil), mixed⟩) Try.func55 (by kernel_rfl) (by kernel_rfl) p_tour_in [.h (.i .i64), .h (.i .i64)] [] [(.i .i64), (.i .i64)] r_tour_in false true [] (by kernel_rfl) (fun y => by kernel_rfl) (fun _ => ⟨rfl, rfl⟩) (fun y => by kernel_rfl) (m_tour_in N) (fun x => by kernel_rfl)
/-! archipelago/tour.Token -/
noncomputable def ct_tour_Token (N : Nat) : List Ctr := [c_tour_sized N]
def p_tour_Token : Pl := .z
def r_tour_Token : PS := ⟨[(4, .h (.i .i64)), (5, .h (.i .i64)), (6, .h .b), (7, .h .b)], [], [(.i .i64), (.i .i64), .b, .b]⟩
noncomputable def m_tour_Token (N : Nat) : Int × Int → Option (Int × Int × Bool × Bool) := exF T ct_tour_Token N (bodyOf Try.f56) 41 p_tour_Token [.h (.i .i64), .h (.i .i64)] [] [(.i .i64), (.i .i64)] r_tour_Token
noncomputable def c_tour_Token (N : Nat) : Ctr := ⟨56, [.h (.i .i64), .h (.i .i64)], [], [(.i .i64), (.i .i64)], Tup r_tour_Token.c, m_tour_Token N, fun y _ k => k (resG T (mkPS 41 r_tour_Token y) Try.f56.results.toList) (keepH' [] (mkPS 41 r_tour_Token y).h), false, true⟩
theorem m_tour_Token_eq (N : Nat) (n : Int) (token : Int) : m_tour_Token (N + 1) (n, token) = obind (m_tour_sized N n) fun z1 =>
  cond (!z1)
   (some ((0 : Int), ((0 : Int), (false, false))))
   (cond (decide (token < (0 : Int)))
     (some ((0 : Int), ((0 : Int), (false, false))))
     (cond (decide ((IntKind.wrap .i64 (n * (IntKind.wrap .i64 (n + (1 : Int))))) ≤ token))
       (some ((0 : Int), ((0 : Int), (false, false))))
       (cond (decide (token < n))
         (some (token, ((0 : Int), (false, true))))
         (obind (quoI token n) fun z2 =>
          obind (remI token n) fun z3 =>
          cond (decide ((IntKind.wrap .i64 ((IntKind.wrap .i64 z2) - (1 : Int))) = z3))
           (some ((0 : Int), ((0 : Int), (false, false))))
           (some ((IntKind.wrap .i64 ((IntKind.wrap .i64 z2) - (1 : Int))), (z3, (true, true)))))))) := by kernel_rfl
theorem c_tour_Token_ok (N : Nat) : (c_tour_Token N).ok Try.prog := exF_ok (T := T) (CT := ct_tour_Token) (N := N) (fun M => ⟨tOk, (ctAll_cons (c_tour_sized_ok M) ctAll_nil), mixed⟩) Try.func56 (by kernel_rfl) (by kernel_rfl) p_tour_Token [.h (.i .i64), .h (.i .i64)] [] [(.i .i64), (.i .i64)] r_tour_Token false true [] (by kernel_rfl) (fun y => by kernel_rfl) (fun _ => ⟨rfl, rfl⟩) (fun y => by kernel_rfl) (m_tour_Token N) (fun x => by kernel_rfl)
/-! (*archipelago/tour.walk).along -/
noncomputable def ct__tour_walk_along_pomm (N : Nat) : List Ctr := []
def p__tour_walk_along_pomm : Pl := .z
def r__tour_walk_along_pomm : PS := ⟨[(6, .h .b)], [(4294967298, .mp (.int .i64) (.i .i64) (.i .i64)), (4294967299, .mp (.int .i64) (.i .i64) (.i .i64)), (4294967296, .box 82 [.k (.ow 900), .k (.mp 4294967298), .k (.mp 4294967299)]), (900, .arr 3 (.i .i64) true)], [.b, (.sl (.pr (.i .i64) (.i .i64))), (.sl (.pr (.i .i64) (.i .i64))), (.sl (.i .i64))]⟩
noncomputable def m__tour_walk_along_pomm (N : Nat) : Int × Int × (List Int) × (List (Int × Int)) × (List (Int × Int)) → Option (Bool × (List (Int × Int)) × (List (Int × Int)) × (List Int)) := exF T ct__tour_walk_along_pomm N (bodyOf Try.f57) 73 p__tour_walk_along_pomm [.k (.pt 4294967296 0), .h (.i .i64), .h (.i .i64)] [(4294967296, .box 82 [.k (.ow 4294967297), .k (.mp 4294967298), .k (.mp 4294967299)]), (4294967297, .arr 3 (.i .i64) true), (4294967298, .mp (.int .i64) (.i .i64) (.i .i64)), (4294967299, .mp (.int .i64) (.i .i64) (.i .i64))] [(.i .i64), (.i .i64), (.sl (.i .i64)), (.sl (.pr (.i .i64) (.i .i64))), (.sl (.pr (.i .i64) (.i .i64)))] r__tour_walk_along_pomm
noncomputable def c__tour_walk_along_pomm (N : Nat) : Ctr := ⟨57, [.k (.pt 4294967296 0), .h (.i .i64), .h (.i .i64)], [(4294967296, .box 82 [.k (.ow 4294967297), .k (.mp 4294967298), .k (.mp 4294967299)]), (4294967297, .arr 3 (.i .i64) true), (4294967298, .mp (.int .i64) (.i .i64) (.i .i64)), (4294967299, .mp (.int .i64) (.i .i64) (.i .i64))], [(.i .i64), (.i .i64), (.sl (.i .i64)), (.sl (.pr (.i .i64) (.i .i64))), (.sl (.pr (.i .i64) (.i .i64)))], Tup r__tour_walk_along_pomm.c, m__tour_walk_along_pomm N, fun y _ k => k (resG T (mkPS 73 r__tour_walk_along_pomm y) Try.f57.results.toList) (keepH' [4294967298, 4294967299, 4294967296, 900] (mkPS 73 r__tour_walk_along_pomm y).h), true, true⟩
theorem m__tour_walk_along_pomm_eq (N : Nat) (u : Int) (v : Int) (h : (List Int)) (h2 : (List (Int × Int))) (h3 : (List (Int × Int))) : m__tour_walk_along_pomm (N + 1) (u, v, h, h2, h3) = obind (nthI h (IntKind.wrap .i64 ((((List.length h) : Nat) : Int) - (1 : Int)))) fun z1 =>
  obind (nthI h (IntKind.wrap .i64 ((((List.length h) : Nat) : Int) - (1 : Int)))) fun z2 =>
  cond (!(decide (z2 = u)))
   (some (false, (h2, (h3, h))))
   (cond (decide ((0 : Int) < (IntKind.wrap .i64 ((((List.length h) : Nat) : Int) - (1 : Int)))))
     (obind (nthI h (IntKind.wrap .i64 ((IntKind.wrap .i64 ((((List.length h) : Nat) : Int) - (1 : Int))) - (1 : Int)))) fun z3 =>
      obind (nthI h (IntKind.wrap .i64 ((IntKind.wrap .i64 ((((List.length h) : Nat) : Int) - (1 : Int))) - (1 : Int)))) fun z4 =>
      cond (decide (z4 = v))
       (obind (subI h (0 : Int) (IntKind.wrap .i64 ((((List.length h) : Nat) : Int) - (1 : Int)))) fun z5 =>
        some (true, (h2, (h3, z5))))
       (cond (decide ((0 : Int) < (Option.getD (mget (.i .i64) h2 v) (0 : Int))))
         (some (false, (h2, (h3, h))))
         (obind (appI (8 : Nat) h [v]) fun z6 =>
          some (true, ((mput (.i .i64) h2 v (IntKind.wrap .i64 ((Option.getD (mget (.i .i64) h2 v) (0 : Int)) + (1 : Int)))), (h3, z6))))))
     (cond (decide ((0 : Int) < (Option.getD (mget (.i .i64) h2 v) (0 : Int))))
       (some (false, (h2, (h3, h))))
       (obind (appI (8 : Nat) h [v]) fun z7 =>
        some (true, ((mput (.i .i64) h2 v (IntKind.wrap .i64 ((Option.getD (mget (.i .i64) h2 v) (0 : Int)) + (1 : Int)))), (h3, z7)))))) := by kernel_rfl
theorem c__tour_walk_along_pomm_ok (N : Nat) : (c__tour_walk_along_pomm N).ok Try.prog := exF_ok (T := T) (CT := ct__tour_walk_along_pomm) (N := N) (fun M => ⟨tOk, ctAll_nil, mixed⟩) Try.func57 (by kernel_rfl) (by kernel_rfl) p__tour_walk_along_pomm [.k (.pt 4294967296 0), .h (.i .i64), .h (.i .i64)] [(4294967296, .box 82 [.k (.ow 4294967297), .k (.mp 4294967298), .k (.mp 4294967299)]), (4294967297, .arr 3 (.i .i64) true), (4294967298, .mp (.int .i64) (.i .i64) (.i .i64)), (4294967299, .mp (.int .i64) (.i .i64) (.i .i64))] [(.i .i64), (.i .i64), (.sl (.i .i64)), (.sl (.pr (.i .i64) (.i .i64))), (.sl (.pr (.i .i64) (.i .i64)))] r__tour_walk_along_pomm true true [4294967298, 4294967299, 4294967296, 900] (by kernel_rfl) (fun y => by kernel_rfl) (fun h => by cases h) (fun y => by kernel_rfl) (m__tour_walk_along_pomm N) (fun x => by kernel_rfl)
/-! archipelago/tour.goes -/
noncomputable def ct_tour_goes (N : Nat) : List Ctr := [c_tour_in N, c_tour_Token N, c__tour_walk_along_pomm N]
def i_tour_goes_1 : PS := ⟨[(0, .h (.i .i64)), (5, .k (.pt 900 0)), (30, .h (.sl (.i .i64))), (31, .h (.i .i64)), (32, .h (.i .i64))], [(900, .box 82 [.k (.ow 901), .k (.mp 902), .k (.mp 903)]), (901, .arr 3 (.i .i64) true), (902, .mp (.int .i64) (.i .i64) (.i .i64)), (903, .mp (.int .i64) (.i .i64) (.i .i64))], [(.i .i64), (.sl (.i .i64)), (.i .i64), (.i .i64), (.sl (.i .i64)), (.sl (.pr (.i .i64) (.i .i64))), (.sl (.pr (.i .i64) (.i .i64)))]⟩
def o_tour_goes_1 : List (Exit × PS) := [((.exit 0), ⟨[(5, .k (.pt 900 0))], [(900, .box 82 [.k (.ow 901), .k (.mp 902), .k (.mp 903)]), (901, .arr 3 (.i .i64) true), (902, .mp (.int .i64) (.i .i64) (.i .i64)), (903, .mp (.int .i64) (.i .i64) (.i .i64))], [(.sl (.i .i64)), (.sl (.pr (.i .i64) (.i .i64))), (.sl (.pr (.i .i64) (.i .i64)))]⟩), (.ret, ⟨[(4, .h .b)], [], [.b]⟩)]
def p_tour_goes_1 : Pl := .z
noncomputable def l_tour_goes_1 (N : Nat) : Nat → Int × (List Int) × Int × Int × (List Int) × (List (Int × Int)) × (List (Int × Int)) → Option (((List Int) × (List (Int × Int)) × (List (Int × Int))) ⊕ (Bool)) := loopF (exC T (ct_tour_goes N) N (codeAt [1, 1, 1, 0, 1, 0, 0] (bodyOf Try.f41))) 107 i_tour_goes_1 o_tour_goes_1 p_tour_goes_1
def p_tour_goes : Pl := (.n .z (.n .z (.n .z (.n (.n .z (.n (.loop i_tour_goes_1 o_tour_goes_1 p_tour_goes_1) .z)) .z))))
def r_tour_goes : PS := ⟨[(4, .h .b)], [], [.b]⟩
noncomputable def m_tour_goes (N : Nat) : Int × (List Int) → Option (Bool) := exF T ct_tour_goes N (bodyOf Try.f41) 107 p_tour_goes [.h (.i .i64), .h (.sl (.i .i64))] [] [(.i .i64), (.sl (.i .i64))] r_tour_goes
noncomputable def c_tour_goes (N : Nat) : Ctr := ⟨41, [.h (.i .i64), .h (.sl (.i .i64))], [], [(.i .i64), (.sl (.i .i64))], Tup r_tour_goes.c, m_tour_goes N, fun y _ k => k (resG T (mkPS 107 r_tour_goes y) Try.f41.results.toList) (keepH' [] (mkPS 107 r_tour_goes y).h), false, true⟩
theorem l_tour_goes_1_z (N : Nat) (v : Int × (List Int) × Int × Int × (List Int) × (List (Int × Int)) × (List (Int × Int))) : l_tour_goes_1 N 0 v = none := by kernel_rfl
theorem l_tour_goes_1_s (N m : Nat) (n : Int) (v30 : (List Int)) (v31 : Int) (v32 : Int) (v901 : (List Int)) (v902 : (List (Int × Int))) (v903 : (List (Int × Int))) : l_tour_goes_1 N (m + 1) (n, v30, v31, v32, v901, v902, v903) = cond (decide (v32 < v31))
   (obind (nthI v30 v32) fun z1 =>
    obind (m_tour_Token N (n, z1)) fun z2 =>
    cond (!z2.2.2.2)
     (some (.inr false))
     (cond z2.2.2.1
       (obind (m__tour_walk_along_pomm N (z2.1, (z2.2.1, (v901, (v902, v903))))) fun z3 =>
        cond (!z3.1)
         (some (.inr false))
         (cond (!z2.2.2.1)
           (obind (nthI z3.2.2.2 (IntKind.wrap .i64 ((((List.length z3.2.2.2) : Nat) : Int) - (1 : Int)))) fun z4 =>
            obind (nthI z3.2.2.2 (IntKind.wrap .i64 ((((List.length z3.2.2.2) : Nat) : Int) - (1 : Int)))) fun z5 =>
            cond (!(decide (z5 = z2.1)))
             (some (.inr false))
             (cond (!z2.2.2.1)
               ((l_tour_goes_1 N m (n, (v30, (v31, ((IntKind.wrap .i64 (v32 + (1 : Int))), (z3.2.2.2, (z3.2.1, (mput (.i .i64) z3.2.2.1 z2.1 (IntKind.wrap .i64 ((Option.getD (mget (.i .i64) z3.2.2.1 z2.1) (0 : Int)) + (1 : Int))))))))))))
               ((l_tour_goes_1 N m (n, (v30, (v31, ((IntKind.wrap .i64 (v32 + (1 : Int))), (z3.2.2.2, (z3.2.1, z3.2.2.1))))))))))
           (cond (!z2.2.2.1)
             ((l_tour_goes_1 N m (n, (v30, (v31, ((IntKind.wrap .i64 (v32 + (1 : Int))), (z3.2.2.2, (z3.2.1, (mput (.i .i64) z3.2.2.1 z2.1 (IntKind.wrap .i64 ((Option.getD (mget (.i .i64) z3.2.2.1 z2.1) (0 : Int)) + (1 : Int))))))))))))
             ((l_tour_goes_1 N m (n, (v30, (v31, ((IntKind.wrap .i64 (v32 + (1 : Int))), (z3.2.2.2, (z3.2.1, z3.2.2.1)))))))))))
       (cond (!z2.2.2.1)
         (obind (nthI v901 (IntKind.wrap .i64 ((((List.length v901) : Nat) : Int) - (1 : Int)))) fun z6 =>
          obind (nthI v901 (IntKind.wrap .i64 ((((List.length v901) : Nat) : Int) - (1 : Int)))) fun z7 =>
          cond (!(decide (z7 = z2.1)))
           (some (.inr false))
           (cond (!z2.2.2.1)
             ((l_tour_goes_1 N m (n, (v30, (v31, ((IntKind.wrap .i64 (v32 + (1 : Int))), (v901, (v902, (mput (.i .i64) v903 z2.1 (IntKind.wrap .i64 ((Option.getD (mget (.i .i64) v903 z2.1) (0 : Int)) + (1 : Int))))))))))))
             ((l_tour_goes_1 N m (n, (v30, (v31, ((IntKind.wrap .i64 (v32 + (1 : Int))), (v901, (v902, v903))))))))))
         (cond (!z2.2.2.1)
           ((l_tour_goes_1 N m (n, (v30, (v31, ((IntKind.wrap .i64 (v32 + (1 : Int))), (v901, (v902, (mput (.i .i64) v903 z2.1 (IntKind.wrap .i64 ((Option.getD (mget (.i .i64) v903 z2.1) (0 : Int)) + (1 : Int))))))))))))
           ((l_tour_goes_1 N m (n, (v30, (v31, ((IntKind.wrap .i64 (v32 + (1 : Int))), (v901, (v902, v903))))))))))))
   (some (.inl (v901, (v902, v903)))) := by kernel_rfl
theorem m_tour_goes_eq (N : Nat) (n : Int) (l : (List Int)) : m_tour_goes (N + 1) (n, l) = obind (nthI l (0 : Int)) fun z1 =>
  obind (m_tour_in N (n, z1)) fun z2 =>
  cond (!z2)
   (some false)
   (obind (nthI l (0 : Int)) fun z3 =>
    obind (nthI l (0 : Int)) fun z4 =>
    obind (l_tour_goes_1 N N (n, (l, ((((List.length l) : Nat) : Int), ((0 : Int), ([z3], ((mput (.i .i64) [] z4 (1 : Int)), []))))))) fun z5 =>
    (match z5 with
    | .inl zy6 => cond (decide ((((List.length zy6.1) : Nat) : Int) = (1 : Int)))
       (some (decide ((((List.length zy6.2.2) : Nat) : Int) = (((List.length zy6.2.1) : Nat) : Int))))
       (some false)
    | .inr zy7 => some zy7)) := by kernel_rfl
theorem c_tour_goes_ok (N : Nat) : (c_tour_goes N).ok Try.prog := exF_ok (T := T) (CT := ct_tour_goes) (N := N) (fun M => ⟨tOk, (ctAll_cons (c_tour_in_ok M) (ctAll_cons (c_tour_Token_ok M) (ctAll_cons (c__tour_walk_along_pomm_ok M) ctAll_nil))), mixed⟩) Try.func41 (by kernel_rfl) (by kernel_rfl) p_tour_goes [.h (.i .i64), .h (.sl (.i .i64))] [] [(.i .i64), (.sl (.i .i64))] r_tour_goes false true [] (by kernel_rfl) (fun y => by kernel_rfl) (fun _ => ⟨rfl, rfl⟩) (fun y => by kernel_rfl) (m_tour_goes N) (fun x => by kernel_rfl)
/-! archipelago/tour.Right -/
noncomputable def ct_tour_Right (N : Nat) : List Ctr := [c_tour_sized N, c_ring_Right N, c_slices_Min_Lint_int N, c_tour_goes N]
def i_tour_Right_3 : PS := ⟨[(3, .k (.mp 900)), (78, .h (.i .i64)), (79, .h (.i .i64))], [(900, .mp (.int .i64) (.i .i64) (.i .i64))], [(.i .i64), (.i .i64), (.sl (.pr (.i .i64) (.i .i64)))]⟩
def o_tour_Right_3 : List (Exit × PS) := [((.exit 4), ⟨[], [], []⟩), (.ret, ⟨[(2, .h .b)], [], [.b]⟩)]
def p_tour_Right_3 : Pl := .z
noncomputable def l_tour_Right_3 (N : Nat) : Nat → Int × Int × (List (Int × Int)) → Option ((Unit) ⊕ (Bool)) := loopF (exC T (ct_tour_Right N) N (codeAt [1, 1, 1, 1, 1, 0, 1, 0, 0] (bodyOf Try.f27))) 87 i_tour_Right_3 o_tour_Right_3 p_tour_Right_3
def i_tour_Right_2 : PS := ⟨[(1, .k (.pt 900 0)), (3, .k (.mp 901)), (4, .h (.i .i64)), (16, .h (.sl (.sl (.i .i64)))), (17, .h (.i .i64)), (18, .h (.i .i64)), (55, .h (.sl (.i .i64))), (56, .h (.i .i64)), (57, .h (.i .i64))], [(900, .box 24 [.h (.i .i64), .h (.sl (.sl (.i .i64)))]), (901, .mp (.int .i64) (.i .i64) (.i .i64))], [(.i .i64), (.sl (.sl (.i .i64))), (.i .i64), (.i .i64), (.sl (.i .i64)), (.i .i64), (.i .i64), (.i .i64), (.sl (.sl (.i .i64))), (.sl (.pr (.i .i64) (.i .i64)))]⟩
def o_tour_Right_2 : List (Exit × PS) := [((.exit 2), ⟨[(1, .k (.pt 900 0)), (3, .k (.mp 901)), (4, .h (.i .i64)), (16, .h (.sl (.sl (.i .i64)))), (17, .h (.i .i64)), (18, .h (.i .i64))], [(900, .box 24 [.h (.i .i64), .h (.sl (.sl (.i .i64)))]), (901, .mp (.int .i64) (.i .i64) (.i .i64))], [(.i .i64), (.sl (.sl (.i .i64))), (.i .i64), (.i .i64), (.i .i64), (.sl (.sl (.i .i64))), (.sl (.pr (.i .i64) (.i .i64)))]⟩), (.ret, ⟨[(2, .h .b)], [], [.b]⟩)]
def p_tour_Right_2 : Pl := .z
noncomputable def l_tour_Right_2 (N : Nat) : Nat → Int × (List (List Int)) × Int × Int × (List Int) × Int × Int × Int × (List (List Int)) × (List (Int × Int)) → Option ((Int × (List (List Int)) × Int × Int × Int × (List (List Int)) × (List (Int × Int))) ⊕ (Bool)) := loopF (exC T (ct_tour_Right N) N (codeAt [1, 1, 1, 1, 0, 1, 0, 0, 1, 1, 0, 0, 1, 1, 1, 1, 0, 0] (bodyOf Try.f27))) 87 i_tour_Right_2 o_tour_Right_2 p_tour_Right_2
def i_tour_Right_1 : PS := ⟨[(1, .k (.pt 900 0)), (3, .k (.mp 901)), (4, .h (.i .i64)), (16, .h (.sl (.sl (.i .i64)))), (17, .h (.i .i64)), (18, .h (.i .i64))], [(900, .box 24 [.h (.i .i64), .h (.sl (.sl (.i .i64)))]), (901, .mp (.int .i64) (.i .i64) (.i .i64))], [(.i .i64), (.sl (.sl (.i .i64))), (.i .i64), (.i .i64), (.i .i64), (.sl (.sl (.i .i64))), (.sl (.pr (.i .i64) (.i .i64)))]⟩
def o_tour_Right_1 : List (Exit × PS) := [((.exit 0), ⟨[(1, .k (.pt 900 0)), (3, .k (.mp 901))], [(900, .box 24 [.h (.i .i64), .h (.sl (.sl (.i .i64)))]), (901, .mp (.int .i64) (.i .i64) (.i .i64))], [(.i .i64), (.sl (.sl (.i .i64))), (.sl (.pr (.i .i64) (.i .i64)))]⟩), (.ret, ⟨[(2, .h .b)], [], [.b]⟩)]
def p_tour_Right_1 : Pl := (.n .z (.n .z (.n (.n (.n .z (.n .z (.n .z (.n .z (.n (.loop i_tour_Right_2 o_tour_Right_2 p_tour_Right_2) .z))))) .z) .z)))
noncomputable def l_tour_Right_1 (N : Nat) : Nat → Int × (List (List Int)) × Int × Int × Int × (List (List Int)) × (List (Int × Int)) → Option ((Int × (List (List Int)) × (List (Int × Int))) ⊕ (Bool)) := loopF (exC T (ct_tour_Right N) N (codeAt [1, 1, 1, 1, 0, 1, 0, 0] (bodyOf Try.f27))) 87 i_tour_Right_1 o_tour_Right_1 p_tour_Right_1
def p_tour_Right : Pl := (.n .z (.n .z (.n .z (.n .z (.n (.n .z (.n (.loop i_tour_Right_1 o_tour_Right_1 p_tour_Right_1) .z)) (.n (.n .z (.n (.loop i_tour_Right_3 o_tour_Right_3 p_tour_Right_3) .z)) .z))))))
def r_tour_Right : PS := ⟨[(2, .h .b)], [], [.b]⟩
noncomputable def m_tour_Right (N : Nat) : Int × (List (List Int)) → Option (Bool) := exF T ct_tour_Right N (bodyOf Try.f27) 87 p_tour_Right [.ag [.h (.i .i64), .h (.sl (.sl (.i .i64)))]] [] [(.i .i64), (.sl (.sl (.i .i64)))] r_tour_Right
noncomputable def c_tour_Right (N : Nat) : Ctr := ⟨27, [.ag [.h (.i .i64), .h (.sl (.sl (.i .i64)))]], [], [(.i .i64), (.sl (.sl (.i .i64)))], Tup r_tour_Right.c, m_tour_Right N, fun y _ k => k (resG T (mkPS 87 r_tour_Right y) Try.f27.results.toList) (keepH' [] (mkPS 87 r_tour_Right y).h), false, true⟩
theorem l_tour_Right_3_z (N : Nat) (v : Int × Int × (List (Int × Int))) : l_tour_Right_3 N 0 v = none := by kernel_rfl
theorem l_tour_Right_3_s (N m : Nat) (v78 : Int) (v79 : Int) (met : (List (Int × Int))) : l_tour_Right_3 N (m + 1) (v78, v79, met) = cond (decide (v79 < v78))
   (cond (decide ((Option.getD (mget (.i .i64) met v79) (0 : Int)) = (0 : Int)))
     (some (.inr false))
     ((l_tour_Right_3 N m (v78, ((IntKind.wrap .i64 (v79 + (1 : Int))), met)))))
   (some (.inl ())) := by kernel_rfl
theorem l_tour_Right_2_z (N : Nat) (v : Int × (List (List Int)) × Int × Int × (List Int) × Int × Int × Int × (List (List Int)) × (List (Int × Int))) : l_tour_Right_2 N 0 v = none := by kernel_rfl
theorem l_tour_Right_2_s (N m : Nat) (last : Int) (v16 : (List (List Int))) (v17 : Int) (v18 : Int) (v55 : (List Int)) (v56 : Int) (v57 : Int) (f : Int) (f2 : (List (List Int))) (met : (List (Int × Int))) : l_tour_Right_2 N (m + 1) (last, v16, v17, v18, v55, v56, v57, f, f2, met) = cond (decide (v57 < v56))
   (obind (nthI v55 v57) fun z1 =>
    cond (decide (z1 < f))
     (cond (decide ((0 : Int) < (Option.getD (mget (.i .i64) met z1) (0 : Int))))
       (some (.inr false))
       ((l_tour_Right_2 N m (last, (v16, (v17, (v18, (v55, (v56, ((IntKind.wrap .i64 (v57 + (1 : Int))), (f, (f2, (mput (.i .i64) met z1 (IntKind.wrap .i64 ((Option.getD (mget (.i .i64) met z1) (0 : Int)) + (1 : Int))))))))))))))))
     ((l_tour_Right_2 N m (last, (v16, (v17, (v18, (v55, (v56, ((IntKind.wrap .i64 (v57 + (1 : Int))), (f, (f2, (mput (.i .i64) met z1 (IntKind.wrap .i64 ((Option.getD (mget (.i .i64) met z1) (0 : Int)) + (1 : Int))))))))))))))))
   (some (.inl (last, (v16, (v17, (v18, (f, (f2, met)))))))) := by kernel_rfl
theorem l_tour_Right_1_z (N : Nat) (v : Int × (List (List Int)) × Int × Int × Int × (List (List Int)) × (List (Int × Int))) : l_tour_Right_1 N 0 v = none := by kernel_rfl
theorem l_tour_Right_1_s (N m : Nat) (last : Int) (v16 : (List (List Int))) (v17 : Int) (v18 : Int) (f : Int) (f2 : (List (List Int))) (met : (List (Int × Int))) : l_tour_Right_1 N (m + 1) (last, v16, v17, v18, f, f2, met) = cond (decide (v18 < v17))
   (obind (nthI v16 v18) fun z1 =>
    cond (decide ((((List.length z1) : Nat) : Int) = (0 : Int)))
     (some (.inr false))
     (obind (nthI z1 (0 : Int)) fun z2 =>
      cond (decide (z2 ≤ last))
       (some (.inr false))
       (obind (m_ring_Right N z1) fun z3 =>
        cond (!z3)
         (some (.inr false))
         (obind (m_slices_Min_Lint_int N z1) fun z4 =>
          obind (nthI z1 (0 : Int)) fun z5 =>
          cond (!(decide (z4 = z5)))
           (some (.inr false))
           (obind (m_tour_goes N (f, z1)) fun z6 =>
            cond (!z6)
             (some (.inr false))
             (obind (nthI z1 (0 : Int)) fun z7 =>
              obind (l_tour_Right_2 N N (z7, (v16, (v17, (v18, (z1, ((((List.length z1) : Nat) : Int), ((0 : Int), (f, (f2, met)))))))))) fun z8 =>
              (match z8 with
              | .inl zy9 => (l_tour_Right_1 N m (zy9.1, (zy9.2.1, (zy9.2.2.1, ((IntKind.wrap .i64 (zy9.2.2.2.1 + (1 : Int))), (zy9.2.2.2.2.1, (zy9.2.2.2.2.2.1, zy9.2.2.2.2.2.2)))))))
              | .inr zy10 => some (.inr zy10))))))))
   (some (.inl (f, (f2, met)))) := by kernel_rfl
theorem m_tour_Right_eq (N : Nat) (f : Int) (f2 : (List (List Int))) : m_tour_Right (N + 1) (f, f2) = obind (m_tour_sized N f) fun z1 =>
  cond (!z1)
   (some false)
   (obind (l_tour_Right_1 N N ((-(1 : Int)), (f2, ((((List.length f2) : Nat) : Int), ((0 : Int), (f, (f2, []))))))) fun z2 =>
    (match z2 with
    | .inl zy3 => obind (l_tour_Right_3 N N (zy3.1, ((0 : Int), zy3.2.2))) fun z4 =>
      (match z4 with
      | .inl zy5 => some true
      | .inr zy6 => some zy6)
    | .inr zy7 => some zy7)) := by kernel_rfl
theorem c_tour_Right_ok (N : Nat) : (c_tour_Right N).ok Try.prog := exF_ok (T := T) (CT := ct_tour_Right) (N := N) (fun M => ⟨tOk, (ctAll_cons (c_tour_sized_ok M) (ctAll_cons (c_ring_Right_ok M) (ctAll_cons (c_slices_Min_Lint_int_ok M) (ctAll_cons (c_tour_goes_ok M) ctAll_nil)))), mixed⟩) Try.func27 (by kernel_rfl) (by kernel_rfl) p_tour_Right [.ag [.h (.i .i64), .h (.sl (.sl (.i .i64)))]] [] [(.i .i64), (.sl (.sl (.i .i64)))] r_tour_Right false true [] (by kernel_rfl) (fun y => by kernel_rfl) (fun _ => ⟨rfl, rfl⟩) (fun y => by kernel_rfl) (m_tour_Right N) (fun x => by kernel_rfl)
/-! archipelago/span.asked -/
noncomputable def ct_span_asked (N : Nat) : List Ctr := []
def i_span_asked_1 : PS := ⟨[(0, .h (.i .i64)), (13, .h (.sl (.pr (.i .i64) (.i .i64)))), (14, .h (.i .i64)), (15, .h (.i .i64))], [], [(.i .i64), (.sl (.pr (.i .i64) (.i .i64))), (.i .i64), (.i .i64)]⟩
def o_span_asked_1 : List (Exit × PS) := [((.exit 0), ⟨[], [], []⟩), (.ret, ⟨[(4, .h (.i .i64))], [], [(.i .i64)]⟩)]
def p_span_asked_1 : Pl := .z
noncomputable def l_span_asked_1 (N : Nat) : Nat → Int × (List (Int × Int)) × Int × Int → Option ((Unit) ⊕ (Int)) := loopF (exC T (ct_span_asked N) N (codeAt [1, 1, 0, 1, 0, 0] (bodyOf Try.f28))) 35 i_span_asked_1 o_span_asked_1 p_span_asked_1
def p_span_asked : Pl := (.n .z (.n .z (.n (.n .z (.n (.loop i_span_asked_1 o_span_asked_1 p_span_asked_1) .z)) .z)))
def r_span_asked : PS := ⟨[(4, .h (.i .i64))], [], [(.i .i64)]⟩
noncomputable def m_span_asked (N : Nat) : Int × (List (Int × Int)) → Option (Int) := exF T ct_span_asked N (bodyOf Try.f28) 35 p_span_asked [.h (.i .i64), .h (.sl (.pr (.i .i64) (.i .i64)))] [] [(.i .i64), (.sl (.pr (.i .i64) (.i .i64)))] r_span_asked
noncomputable def c_span_asked (N : Nat) : Ctr := ⟨28, [.h (.i .i64), .h (.sl (.pr (.i .i64) (.i .i64)))], [], [(.i .i64), (.sl (.pr (.i .i64) (.i .i64)))], Tup r_span_asked.c, m_span_asked N, fun y _ k => k (resG T (mkPS 35 r_span_asked y) Try.f28.results.toList) (keepH' [] (mkPS 35 r_span_asked y).h), false, true⟩
theorem l_span_asked_1_z (N : Nat) (v : Int × (List (Int × Int)) × Int × Int) : l_span_asked_1 N 0 v = none := by kernel_rfl
theorem l_span_asked_1_s (N m : Nat) (n : Int) (v13 : (List (Int × Int))) (v14 : Int) (v15 : Int) : l_span_asked_1 N (m + 1) (n, v13, v14, v15) = cond (decide (v15 < v14))
   (obind (nthI v13 v15) fun z1 =>
    cond (decide ((if (z1.2 < z1.1) then z1.2 else z1.1) < (0 : Int)))
     (some (.inr (10 : Int)))
     (cond (decide (n ≤ (if (z1.2 > z1.1) then z1.2 else z1.1)))
       (some (.inr (10 : Int)))
       ((l_span_asked_1 N m (n, (v13, (v14, (IntKind.wrap .i64 (v15 + (1 : Int))))))))))
   (some (.inl ())) := by kernel_rfl
theorem m_span_asked_eq (N : Nat) (n : Int) (l : (List (Int × Int))) : m_span_asked (N + 1) (n, l) = cond (decide (n < (1 : Int)))
   (some (1 : Int))
   (cond (decide ((64 : Int) < n))
     (some (1 : Int))
     (obind (l_span_asked_1 N N (n, (l, ((((List.length l) : Nat) : Int), (0 : Int))))) fun z1 =>
      (match z1 with
      | .inl zy2 => some (0 : Int)
      | .inr zy3 => some zy3))) := by kernel_rfl
theorem c_span_asked_ok (N : Nat) : (c_span_asked N).ok Try.prog := exF_ok (T := T) (CT := ct_span_asked) (N := N) (fun M => ⟨tOk, ctAll_nil, mixed⟩) Try.func28 (by kernel_rfl) (by kernel_rfl) p_span_asked [.h (.i .i64), .h (.sl (.pr (.i .i64) (.i .i64)))] [] [(.i .i64), (.sl (.pr (.i .i64) (.i .i64)))] r_span_asked false true [] (by kernel_rfl) (fun y => by kernel_rfl) (fun _ => ⟨rfl, rfl⟩) (fun y => by kernel_rfl) (m_span_asked N) (fun x => by kernel_rfl)
/-! archipelago/forest.there$1 -/
noncomputable def ct_forest_thereF1_phh (N : Nat) : List Ctr := []
def p_forest_thereF1_phh : Pl := .z
def r_forest_thereF1_phh : PS := ⟨[(3, .h .b)], [(4294967296, .box 24 [.h (.i .i64), .h (.sl (.sl (.i .i64)))])], [.b, (.i .i64), (.sl (.sl (.i .i64)))]⟩
noncomputable def m_forest_thereF1_phh (N : Nat) : Int × Int × (List (List Int)) → Option (Bool × Int × (List (List Int))) := exF T ct_forest_thereF1_phh N (bodyOf Try.f58) 12 p_forest_thereF1_phh [.h (.i .i64), .k (.pt 4294967296 0)] [(4294967296, .box 24 [.h (.i .i64), .h (.sl (.sl (.i .i64)))])] [(.i .i64), (.i .i64), (.sl (.sl (.i .i64)))] r_forest_thereF1_phh
noncomputable def c_forest_thereF1_phh (N : Nat) : Ctr := ⟨58, [.h (.i .i64), .k (.pt 4294967296 0)], [(4294967296, .box 24 [.h (.i .i64), .h (.sl (.sl (.i .i64)))])], [(.i .i64), (.i .i64), (.sl (.sl (.i .i64)))], Tup r_forest_thereF1_phh.c, m_forest_thereF1_phh N, fun y _ k => k (resG T (mkPS 12 r_forest_thereF1_phh y) Try.f58.results.toList) (keepH' [4294967296] (mkPS 12 r_forest_thereF1_phh y).h), true, false⟩
theorem m_forest_thereF1_phh_eq (N : Nat) (v : Int) (v4294967296 : Int) (v42949672962 : (List (List Int))) : m_forest_thereF1_phh (N + 1) (v, v4294967296, v42949672962) = cond (decide (v < (0 : Int)))
   (some (true, (v4294967296, v42949672962)))
   (some ((decide (v4294967296 ≤ v)), (v4294967296, v42949672962))) := by kernel_rfl
theorem c_forest_thereF1_phh_ok (N : Nat) : (c_forest_thereF1_phh N).ok Try.prog := exF_ok (T := T) (CT := ct_forest_thereF1_phh) (N := N) (fun M => ⟨tOk, ctAll_nil, mixed⟩) Try.func58 (by kernel_rfl) (by kernel_rfl) p_forest_thereF1_phh [.h (.i .i64), .k (.pt 4294967296 0)] [(4294967296, .box 24 [.h (.i .i64), .h (.sl (.sl (.i .i64)))])] [(.i .i64), (.i .i64), (.sl (.sl (.i .i64)))] r_forest_thereF1_phh true false [4294967296] (by kernel_rfl) (fun y => by kernel_rfl) (fun h => by cases h) (fun y => by kernel_rfl) (m_forest_thereF1_phh N) (fun x => by kernel_rfl)
/-! slices.IndexFunc[[]int,int] -/
noncomputable def ct_slices_IndexFunc_Lint_int_forest_thereF1_f58phh (N : Nat) : List Ctr := [c_forest_thereF1_phh N]
def i_slices_IndexFunc_Lint_int_forest_thereF1_f58phh_1 : PS := ⟨[(0, .h (.sl (.i .i64))), (1, .cl (.func 58) [] [.k (.pt 4294967296 0)]), (7, .h (.i .i64)), (8, .h (.i .i64))], [(4294967296, .box 24 [.h (.i .i64), .h (.sl (.sl (.i .i64)))])], [(.sl (.i .i64)), (.i .i64), (.i .i64), (.i .i64), (.sl (.sl (.i .i64)))]⟩
def o_slices_IndexFunc_Lint_int_forest_thereF1_f58phh_1 : List (Exit × PS) := [((.exit 0), ⟨[], [(4294967296, .box 24 [.h (.i .i64), .h (.sl (.sl (.i .i64)))])], [(.i .i64), (.sl (.sl (.i .i64)))]⟩), (.ret, ⟨[(4, .h (.i .i64))], [(4294967296, .box 24 [.h (.i .i64), .h (.sl (.sl (.i .i64)))])], [(.i .i64), (.i .i64), (.sl (.sl (.i .i64)))]⟩)]
def p_slices_IndexFunc_Lint_int_forest_thereF1_f58phh_1 : Pl := .z
noncomputable def l_slices_IndexFunc_Lint_int_forest_thereF1_f58phh_1 (N : Nat) : Nat → (List Int) × Int × Int × Int × (List (List Int)) → Option ((Int × (List (List Int))) ⊕ (Int × Int × (List (List Int)))) := loopF (exC T (ct_slices_IndexFunc_Lint_int_forest_thereF1_f58phh N) N (codeAt [1, 0, 1, 0, 0] (bodyOf Try.f66))) 19 i_slices_IndexFunc_Lint_int_forest_thereF1_f58phh_1 o_slices_IndexFunc_Lint_int_forest_thereF1_f58phh_1 p_slices_IndexFunc_Lint_int_forest_thereF1_f58phh_1
def p_slices_IndexFunc_Lint_int_forest_thereF1_f58phh : Pl := (.n .z (.n (.n .z (.n (.loop i_slices_IndexFunc_Lint_int_forest_thereF1_f58phh_1 o_slices_IndexFunc_Lint_int_forest_thereF1_f58phh_1 p_slices_IndexFunc_Lint_int_forest_thereF1_f58phh_1) .z)) .z))
def r_slices_IndexFunc_Lint_int_forest_thereF1_f58phh : PS := ⟨[(4, .h (.i .i64))], [(4294967296, .box 24 [.h (.i .i64), .h (.sl (.sl (.i .i64)))])], [(.i .i64), (.i .i64), (.sl (.sl (.i .i64)))]⟩
noncomputable def m_slices_IndexFunc_Lint_int_forest_thereF1_f58phh (N : Nat) : (List Int) × Int × (List (List Int)) → Option (Int × Int × (List (List Int))) := exF T ct_slices_IndexFunc_Lint_int_forest_thereF1_f58phh N (bodyOf Try.f66) 19 p_slices_IndexFunc_Lint_int_forest_thereF1_f58phh [.h (.sl (.i .i64)), .cl (.func 58) [] [.k (.pt 4294967296 0)]] [(4294967296, .box 24 [.h (.i .i64), .h (.sl (.sl (.i .i64)))])] [(.sl (.i .i64)), (.i .i64), (.sl (.sl (.i .i64)))] r_slices_IndexFunc_Lint_int_forest_thereF1_f58phh
noncomputable def c_slices_IndexFunc_Lint_int_forest_thereF1_f58phh (N : Nat) : Ctr := ⟨66, [.h (.sl (.i .i64)), .cl (.func 58) [] [.k (.pt 4294967296 0)]], [(4294967296, .box 24 [.h (.i .i64), .h (.sl (.sl (.i .i64)))])], [(.sl (.i .i64)), (.i .i64), (.sl (.sl (.i .i64)))], Tup r_slices_IndexFunc_Lint_int_forest_thereF1_f58phh.c, m_slices_IndexFunc_Lint_int_forest_thereF1_f58phh N, fun y _ k => k (resG T (mkPS 19 r_slices_IndexFunc_Lint_int_forest_thereF1_f58phh y) Try.f66.results.toList) (keepH' [4294967296] (mkPS 19 r_slices_IndexFunc_Lint_int_forest_thereF1_f58phh y).h), true, false⟩
theorem l_slices_IndexFunc_Lint_int_forest_thereF1_f58phh_1_z (N : Nat) (v : (List Int) × Int × Int × Int × (List (List Int))) : l_slices_IndexFunc_Lint_int_forest_thereF1_f58phh_1 N 0 v = none := by kernel_rfl
theorem l_slices_IndexFunc_Lint_int_forest_thereF1_f58phh_1_s (N m : Nat) (s : (List Int)) (v7 : Int) (v8 : Int) (f : Int) (f2 : (List (List Int))) : l_slices_IndexFunc_Lint_int_forest_thereF1_f58phh_1 N (m + 1) (s, v7, v8, f, f2) = cond (decide (v8 < v7))
   (obind (nthI s v8) fun z1 =>
    obind (m_forest_thereF1_phh N (z1, (f, f2))) fun z2 =>
    cond z2.1
     (some (.inr (v8, (z2.2.1, z2.2.2))))
     ((l_slices_IndexFunc_Lint_int_forest_thereF1_f58phh_1 N m (s, (v7, ((IntKind.wrap .i64 (v8 + (1 : Int))), (z2.2.1, z2.2.2)))))))
   (some (.inl (f, f2))) := by kernel_rfl
theorem m_slices_IndexFunc_Lint_int_forest_thereF1_f58phh_eq (N : Nat) (s : (List Int)) (f : Int) (f2 : (List (List Int))) : m_slices_IndexFunc_Lint_int_forest_thereF1_f58phh (N + 1) (s, f, f2) = obind (l_slices_IndexFunc_Lint_int_forest_thereF1_f58phh_1 N N (s, ((((List.length s) : Nat) : Int), ((0 : Int), (f, f2))))) fun z1 =>
  (match z1 with
  | .inl zy2 => some ((-(1 : Int)), (zy2.1, zy2.2))
  | .inr zy3 => some (zy3.1, (zy3.2.1, zy3.2.2))) := by kernel_rfl
theorem c_slices_IndexFunc_Lint_int_forest_thereF1_f58phh_ok (N : Nat) : (c_slices_IndexFunc_Lint_int_forest_thereF1_f58phh N).ok Try.prog := exF_ok (T := T) (CT := ct_slices_IndexFunc_Lint_int_forest_thereF1_f58phh) (N := N) (fun M => ⟨tOk, (ctAll_cons (c_forest_thereF1_phh_ok M) ctAll_nil), mixed⟩) Try.func66 (by kernel_rfl) (by kernel_rfl) p_slices_IndexFunc_Lint_int_forest_thereF1_f58phh [.h (.sl (.i .i64)), .cl (.func 58) [] [.k (.pt 4294967296 0)]] [(4294967296, .box 24 [.h (.i .i64), .h (.sl (.sl (.i .i64)))])] [(.sl (.i .i64)), (.i .i64), (.sl (.sl (.i .i64)))] r_slices_IndexFunc_Lint_int_forest_thereF1_f58phh true false [4294967296] (by kernel_rfl) (fun y => by kernel_rfl) (fun h => by cases h) (fun y => by kernel_rfl) (m_slices_IndexFunc_Lint_int_forest_thereF1_f58phh N) (fun x => by kernel_rfl)
/-! slices.ContainsFunc[[]int,int] -/
noncomputable def ct_slices_ContainsFunc_Lint_int_forest_thereF1_f58phh (N : Nat) : List Ctr := [c_slices_IndexFunc_Lint_int_forest_thereF1_f58phh N]
def p_slices_ContainsFunc_Lint_int_forest_thereF1_f58phh : Pl := .z
def r_slices_ContainsFunc_Lint_int_forest_thereF1_f58phh : PS := ⟨[(4, .h .b)], [(4294967296, .box 24 [.h (.i .i64), .h (.sl (.sl (.i .i64)))])], [.b, (.i .i64), (.sl (.sl (.i .i64)))]⟩
noncomputable def m_slices_ContainsFunc_Lint_int_forest_thereF1_f58phh (N : Nat) : (List Int) × Int × (List (List Int)) → Option (Bool × Int × (List (List Int))) := exF T ct_slices_ContainsFunc_Lint_int_forest_thereF1_f58phh N (bodyOf Try.f53) 9 p_slices_ContainsFunc_Lint_int_forest_thereF1_f58phh [.h (.sl (.i .i64)), .cl (.func 58) [] [.k (.pt 4294967296 0)]] [(4294967296, .box 24 [.h (.i .i64), .h (.sl (.sl (.i .i64)))])] [(.sl (.i .i64)), (.i .i64), (.sl (.sl (.i .i64)))] r_slices_ContainsFunc_Lint_int_forest_thereF1_f58phh
noncomputable def c_slices_ContainsFunc_Lint_int_forest_thereF1_f58phh (N : Nat) : Ctr := ⟨53, [.h (.sl (.i .i64)), .cl (.func 58) [] [.k (.pt 4294967296 0)]], [(4294967296, .box 24 [.h (.i .i64), .h (.sl (.sl (.i .i64)))])], [(.sl (.i .i64)), (.i .i64), (.sl (.sl (.i .i64)))], Tup r_slices_ContainsFunc_Lint_int_forest_thereF1_f58phh.c, m_slices_ContainsFunc_Lint_int_forest_thereF1_f58phh N, fun y _ k => k (resG T (mkPS 9 r_slices_ContainsFunc_Lint_int_forest_thereF1_f58phh y) Try.f53.results.toList) (keepH' [4294967296] (mkPS 9 r_slices_ContainsFunc_Lint_int_forest_thereF1_f58phh y).h), true, false⟩
theorem m_slices_ContainsFunc_Lint_int_forest_thereF1_f58phh_eq (N : Nat) (s : (List Int)) (f : Int) (f2 : (List (List Int))) : m_slices_ContainsFunc_Lint_int_forest_thereF1_f58phh (N + 1) (s, f, f2) = obind (m_slices_IndexFunc_Lint_int_forest_thereF1_f58phh N (s, (f, f2))) fun z1 =>
  some ((decide ((0 : Int) ≤ z1.1)), (z1.2.1, z1.2.2)) := by kernel_rfl
theorem c_slices_ContainsFunc_Lint_int_forest_thereF1_f58phh_ok (N : Nat) : (c_slices_ContainsFunc_Lint_int_forest_thereF1_f58phh N).ok Try.prog := exF_ok (T := T) (CT := ct_slices_ContainsFunc_Lint_int_forest_thereF1_f58phh) (N := N) (fun M => ⟨tOk, (ctAll_cons (c_slices_IndexFunc_Lint_int_forest_thereF1_f58phh_ok M) ctAll_nil), mixed⟩) Try.func53 (by kernel_rfl) (by kernel_rfl) p_slices_ContainsFunc_Lint_int_forest_thereF1_f58phh [.h (.sl (.i .i64)), .cl (.func 58) [] [.k (.pt 4294967296 0)]] [(4294967296, .box 24 [.h (.i .i64), .h (.sl (.sl (.i .i64)))])] [(.sl (.i .i64)), (.i .i64), (.sl (.sl (.i .i64)))] r_slices_ContainsFunc_Lint_int_forest_thereF1_f58phh true false [4294967296] (by kernel_rfl) (fun y => by kernel_rfl) (fun h => by cases h) (fun y => by kernel_rfl) (m_slices_ContainsFunc_Lint_int_forest_thereF1_f58phh N) (fun x => by kernel_rfl)
/-! archipelago/forest.there -/
noncomputable def ct_forest_there (N : Nat) : List Ctr := [c_tour_Right N, c_slices_ContainsFunc_Lint_int_forest_thereF1_f58phh N]
def p_forest_there : Pl := .z
def r_forest_there : PS := ⟨[(4, .h (.i .i64))], [], [(.i .i64)]⟩
noncomputable def m_forest_there (N : Nat) : Int × (List (List Int)) × (List Int) → Option (Int) := exF T ct_forest_there N (bodyOf Try.f42) 11 p_forest_there [.ag [.h (.i .i64), .h (.sl (.sl (.i .i64)))], .h (.sl (.i .i64))] [] [(.i .i64), (.sl (.sl (.i .i64))), (.sl (.i .i64))] r_forest_there
noncomputable def c_forest_there (N : Nat) : Ctr := ⟨42, [.ag [.h (.i .i64), .h (.sl (.sl (.i .i64)))], .h (.sl (.i .i64))], [], [(.i .i64), (.sl (.sl (.i .i64))), (.sl (.i .i64))], Tup r_forest_there.c, m_forest_there N, fun y _ k => k (resG T (mkPS 11 r_forest_there y) Try.f42.results.toList) (keepH' [] (mkPS 11 r_forest_there y).h), false, true⟩
theorem m_forest_there_eq (N : Nat) (f : Int) (f2 : (List (List Int))) (vertices : (List Int)) : m_forest_there (N + 1) (f, f2, vertices) = obind (m_tour_Right N (f, f2)) fun z1 =>
  cond (!z1)
   (some (1 : Int))
   (obind (m_slices_ContainsFunc_Lint_int_forest_thereF1_f58phh N (vertices, (f, f2))) fun z2 =>
    cond z2.1
     (some (10 : Int))
     (some (0 : Int))) := by kernel_rfl
theorem c_forest_there_ok (N : Nat) : (c_forest_there N).ok Try.prog := exF_ok (T := T) (CT := ct_forest_there) (N := N) (fun M => ⟨tOk, (ctAll_cons (c_tour_Right_ok M) (ctAll_cons (c_slices_ContainsFunc_Lint_int_forest_thereF1_f58phh_ok M) ctAll_nil)), mixed⟩) Try.func42 (by kernel_rfl) (by kernel_rfl) p_forest_there [.ag [.h (.i .i64), .h (.sl (.sl (.i .i64)))], .h (.sl (.i .i64))] [] [(.i .i64), (.sl (.sl (.i .i64))), (.sl (.i .i64))] r_forest_there false true [] (by kernel_rfl) (fun y => by kernel_rfl) (fun _ => ⟨rfl, rfl⟩) (fun y => by kernel_rfl) (m_forest_there N) (fun x => by kernel_rfl)
/-! slices.Index[[]int,int] -/
noncomputable def ct_slices_Index_Lint_int (N : Nat) : List Ctr := []
def i_slices_Index_Lint_int_1 : PS := ⟨[(0, .h (.sl (.i .i64))), (1, .h (.i .i64)), (7, .h (.i .i64)), (8, .h (.i .i64))], [], [(.sl (.i .i64)), (.i .i64), (.i .i64), (.i .i64)]⟩
def o_slices_Index_Lint_int_1 : List (Exit × PS) := [((.exit 0), ⟨[], [], []⟩), (.ret, ⟨[(4, .h (.i .i64))], [], [(.i .i64)]⟩)]
def p_slices_Index_Lint_int_1 : Pl := .z
noncomputable def l_slices_Index_Lint_int_1 (N : Nat) : Nat → (List Int) × Int × Int × Int → Option ((Unit) ⊕ (Int)) := loopF (exC T (ct_slices_Index_Lint_int N) N (codeAt [1, 0, 1, 0, 0] (bodyOf Try.f72))) 19 i_slices_Index_Lint_int_1 o_slices_Index_Lint_int_1 p_slices_Index_Lint_int_1
def p_slices_Index_Lint_int : Pl := (.n .z (.n (.n .z (.n (.loop i_slices_Index_Lint_int_1 o_slices_Index_Lint_int_1 p_slices_Index_Lint_int_1) .z)) .z))
def r_slices_Index_Lint_int : PS := ⟨[(4, .h (.i .i64))], [], [(.i .i64)]⟩
noncomputable def m_slices_Index_Lint_int (N : Nat) : (List Int) × Int → Option (Int) := exF T ct_slices_Index_Lint_int N (bodyOf Try.f72) 19 p_slices_Index_Lint_int [.h (.sl (.i .i64)), .h (.i .i64)] [] [(.sl (.i .i64)), (.i .i64)] r_slices_Index_Lint_int
noncomputable def c_slices_Index_Lint_int (N : Nat) : Ctr := ⟨72, [.h (.sl (.i .i64)), .h (.i .i64)], [], [(.sl (.i .i64)), (.i .i64)], Tup r_slices_Index_Lint_int.c, m_slices_Index_Lint_int N, fun y _ k => k (resG T (mkPS 19 r_slices_Index_Lint_int y) Try.f72.results.toList) (keepH' [] (mkPS 19 r_slices_Index_Lint_int y).h), false, true⟩
theorem l_slices_Index_Lint_int_1_z (N : Nat) (v : (List Int) × Int × Int × Int) : l_slices_Index_Lint_int_1 N 0 v = none := by kernel_rfl
theorem l_slices_Index_Lint_int_1_s (N m : Nat) (s : (List Int)) (v : Int) (v7 : Int) (v8 : Int) : l_slices_Index_Lint_int_1 N (m + 1) (s, v, v7, v8) = cond (decide (v8 < v7))
   (obind (nthI s v8) fun z1 =>
    cond (decide (v = z1))
     (some (.inr v8))
     ((l_slices_Index_Lint_int_1 N m (s, (v, (v7, (IntKind.wrap .i64 (v8 + (1 : Int)))))))))
   (some (.inl ())) := by kernel_rfl
theorem m_slices_Index_Lint_int_eq (N : Nat) (s : (List Int)) (v : Int) : m_slices_Index_Lint_int (N + 1) (s, v) = obind (l_slices_Index_Lint_int_1 N N (s, (v, ((((List.length s) : Nat) : Int), (0 : Int))))) fun z1 =>
  (match z1 with
  | .inl zy2 => some (-(1 : Int))
  | .inr zy3 => some zy3) := by kernel_rfl
theorem c_slices_Index_Lint_int_ok (N : Nat) : (c_slices_Index_Lint_int N).ok Try.prog := exF_ok (T := T) (CT := ct_slices_Index_Lint_int) (N := N) (fun M => ⟨tOk, ctAll_nil, mixed⟩) Try.func72 (by kernel_rfl) (by kernel_rfl) p_slices_Index_Lint_int [.h (.sl (.i .i64)), .h (.i .i64)] [] [(.sl (.i .i64)), (.i .i64)] r_slices_Index_Lint_int false true [] (by kernel_rfl) (fun y => by kernel_rfl) (fun _ => ⟨rfl, rfl⟩) (fun y => by kernel_rfl) (m_slices_Index_Lint_int N) (fun x => by kernel_rfl)
/-! slices.Contains[[]int,int] -/
noncomputable def ct_slices_Contains_Lint_int (N : Nat) : List Ctr := [c_slices_Index_Lint_int N]
def p_slices_Contains_Lint_int : Pl := .z
def r_slices_Contains_Lint_int : PS := ⟨[(4, .h .b)], [], [.b]⟩
noncomputable def m_slices_Contains_Lint_int (N : Nat) : (List Int) × Int → Option (Bool) := exF T ct_slices_Contains_Lint_int N (bodyOf Try.f69) 9 p_slices_Contains_Lint_int [.h (.sl (.i .i64)), .h (.i .i64)] [] [(.sl (.i .i64)), (.i .i64)] r_slices_Contains_Lint_int
noncomputable def c_slices_Contains_Lint_int (N : Nat) : Ctr := ⟨69, [.h (.sl (.i .i64)), .h (.i .i64)], [], [(.sl (.i .i64)), (.i .i64)], Tup r_slices_Contains_Lint_int.c, m_slices_Contains_Lint_int N, fun y _ k => k (resG T (mkPS 9 r_slices_Contains_Lint_int y) Try.f69.results.toList) (keepH' [] (mkPS 9 r_slices_Contains_Lint_int y).h), false, true⟩
theorem m_slices_Contains_Lint_int_eq (N : Nat) (s : (List Int)) (v : Int) : m_slices_Contains_Lint_int (N + 1) (s, v) = obind (m_slices_Index_Lint_int N (s, v)) fun z1 =>
  some (decide ((0 : Int) ≤ z1)) := by kernel_rfl
theorem c_slices_Contains_Lint_int_ok (N : Nat) : (c_slices_Contains_Lint_int N).ok Try.prog := exF_ok (T := T) (CT := ct_slices_Contains_Lint_int) (N := N) (fun M => ⟨tOk, (ctAll_cons (c_slices_Index_Lint_int_ok M) ctAll_nil), mixed⟩) Try.func69 (by kernel_rfl) (by kernel_rfl) p_slices_Contains_Lint_int [.h (.sl (.i .i64)), .h (.i .i64)] [] [(.sl (.i .i64)), (.i .i64)] r_slices_Contains_Lint_int false true [] (by kernel_rfl) (fun y => by kernel_rfl) (fun _ => ⟨rfl, rfl⟩) (fun y => by kernel_rfl) (m_slices_Contains_Lint_int N) (fun x => by kernel_rfl)
/-! archipelago/tour.place$1 -/
noncomputable def ct_tour_placeF1_ph (N : Nat) : List Ctr := [c_slices_Contains_Lint_int N]
def p_tour_placeF1_ph : Pl := .z
def r_tour_placeF1_ph : PS := ⟨[(3, .h .b)], [(4294967296, .box 3 [.h (.i .i64)])], [.b, (.i .i64)]⟩
noncomputable def m_tour_placeF1_ph (N : Nat) : (List Int) × Int → Option (Bool × Int) := exF T ct_tour_placeF1_ph N (bodyOf Try.f68) 7 p_tour_placeF1_ph [.h (.sl (.i .i64)), .k (.pt 4294967296 0)] [(4294967296, .box 3 [.h (.i .i64)])] [(.sl (.i .i64)), (.i .i64)] r_tour_placeF1_ph
noncomputable def c_tour_placeF1_ph (N : Nat) : Ctr := ⟨68, [.h (.sl (.i .i64)), .k (.pt 4294967296 0)], [(4294967296, .box 3 [.h (.i .i64)])], [(.sl (.i .i64)), (.i .i64)], Tup r_tour_placeF1_ph.c, m_tour_placeF1_ph N, fun y _ k => k (resG T (mkPS 7 r_tour_placeF1_ph y) Try.f68.results.toList) (keepH' [4294967296] (mkPS 7 r_tour_placeF1_ph y).h), true, true⟩
theorem m_tour_placeF1_ph_eq (N : Nat) (l : (List Int)) (v4294967296 : Int) : m_tour_placeF1_ph (N + 1) (l, v4294967296) = obind (m_slices_Contains_Lint_int N (l, v4294967296)) fun z1 =>
  some (z1, v4294967296) := by kernel_rfl
theorem c_tour_placeF1_ph_ok (N : Nat) : (c_tour_placeF1_ph N).ok Try.prog := exF_ok (T := T) (CT := ct_tour_placeF1_ph) (N := N) (fun M => ⟨tOk, (ctAll_cons (c_slices_Contains_Lint_int_ok M) ctAll_nil), mixed⟩) Try.func68 (by kernel_rfl) (by kernel_rfl) p_tour_placeF1_ph [.h (.sl (.i .i64)), .k (.pt 4294967296 0)] [(4294967296, .box 3 [.h (.i .i64)])] [(.sl (.i .i64)), (.i .i64)] r_tour_placeF1_ph true true [4294967296] (by kernel_rfl) (fun y => by kernel_rfl) (fun h => by cases h) (fun y => by kernel_rfl) (m_tour_placeF1_ph N) (fun x => by kernel_rfl)
/-! slices.IndexFunc[[][]int,[]int] -/
noncomputable def ct_slices_IndexFunc_LLint_Lint_tour_placeF1_f68ph (N : Nat) : List Ctr := [c_tour_placeF1_ph N]
def i_slices_IndexFunc_LLint_Lint_tour_placeF1_f68ph_1 : PS := ⟨[(0, .h (.sl (.sl (.i .i64)))), (1, .cl (.func 68) [] [.k (.pt 4294967296 0)]), (7, .h (.i .i64)), (8, .h (.i .i64))], [(4294967296, .box 3 [.h (.i .i64)])], [(.sl (.sl (.i .i64))), (.i .i64), (.i .i64), (.i .i64)]⟩
def o_slices_IndexFunc_LLint_Lint_tour_placeF1_f68ph_1 : List (Exit × PS) := [((.exit 0), ⟨[], [(4294967296, .box 3 [.h (.i .i64)])], [(.i .i64)]⟩), (.ret, ⟨[(4, .h (.i .i64))], [(4294967296, .box 3 [.h (.i .i64)])], [(.i .i64), (.i .i64)]⟩)]
def p_slices_IndexFunc_LLint_Lint_tour_placeF1_f68ph_1 : Pl := .z
noncomputable def l_slices_IndexFunc_LLint_Lint_tour_placeF1_f68ph_1 (N : Nat) : Nat → (List (List Int)) × Int × Int × Int → Option ((Int) ⊕ (Int × Int)) := loopF (exC T (ct_slices_IndexFunc_LLint_Lint_tour_placeF1_f68ph N) N (codeAt [1, 0, 1, 0, 0] (bodyOf Try.f67))) 19 i_slices_IndexFunc_LLint_Lint_tour_placeF1_f68ph_1 o_slices_IndexFunc_LLint_Lint_tour_placeF1_f68ph_1 p_slices_IndexFunc_LLint_Lint_tour_placeF1_f68ph_1
def p_slices_IndexFunc_LLint_Lint_tour_placeF1_f68ph : Pl := (.n .z (.n (.n .z (.n (.loop i_slices_IndexFunc_LLint_Lint_tour_placeF1_f68ph_1 o_slices_IndexFunc_LLint_Lint_tour_placeF1_f68ph_1 p_slices_IndexFunc_LLint_Lint_tour_placeF1_f68ph_1) .z)) .z))
def r_slices_IndexFunc_LLint_Lint_tour_placeF1_f68ph : PS := ⟨[(4, .h (.i .i64))], [(4294967296, .box 3 [.h (.i .i64)])], [(.i .i64), (.i .i64)]⟩
noncomputable def m_slices_IndexFunc_LLint_Lint_tour_placeF1_f68ph (N : Nat) : (List (List Int)) × Int → Option (Int × Int) := exF T ct_slices_IndexFunc_LLint_Lint_tour_placeF1_f68ph N (bodyOf Try.f67) 19 p_slices_IndexFunc_LLint_Lint_tour_placeF1_f68ph [.h (.sl (.sl (.i .i64))), .cl (.func 68) [] [.k (.pt 4294967296 0)]] [(4294967296, .box 3 [.h (.i .i64)])] [(.sl (.sl (.i .i64))), (.i .i64)] r_slices_IndexFunc_LLint_Lint_tour_placeF1_f68ph
noncomputable def c_slices_IndexFunc_LLint_Lint_tour_placeF1_f68ph (N : Nat) : Ctr := ⟨67, [.h (.sl (.sl (.i .i64))), .cl (.func 68) [] [.k (.pt 4294967296 0)]], [(4294967296, .box 3 [.h (.i .i64)])], [(.sl (.sl (.i .i64))), (.i .i64)], Tup r_slices_IndexFunc_LLint_Lint_tour_placeF1_f68ph.c, m_slices_IndexFunc_LLint_Lint_tour_placeF1_f68ph N, fun y _ k => k (resG T (mkPS 19 r_slices_IndexFunc_LLint_Lint_tour_placeF1_f68ph y) Try.f67.results.toList) (keepH' [4294967296] (mkPS 19 r_slices_IndexFunc_LLint_Lint_tour_placeF1_f68ph y).h), true, true⟩
theorem l_slices_IndexFunc_LLint_Lint_tour_placeF1_f68ph_1_z (N : Nat) (v : (List (List Int)) × Int × Int × Int) : l_slices_IndexFunc_LLint_Lint_tour_placeF1_f68ph_1 N 0 v = none := by kernel_rfl
theorem l_slices_IndexFunc_LLint_Lint_tour_placeF1_f68ph_1_s (N m : Nat) (s : (List (List Int))) (v7 : Int) (v8 : Int) (f : Int) : l_slices_IndexFunc_LLint_Lint_tour_placeF1_f68ph_1 N (m + 1) (s, v7, v8, f) = cond (decide (v8 < v7))
   (obind (nthI s v8) fun z1 =>
    obind (m_tour_placeF1_ph N (z1, f)) fun z2 =>
    cond z2.1
     (some (.inr (v8, z2.2)))
     ((l_slices_IndexFunc_LLint_Lint_tour_placeF1_f68ph_1 N m (s, (v7, ((IntKind.wrap .i64 (v8 + (1 : Int))), z2.2))))))
   (some (.inl f)) := by kernel_rfl
theorem m_slices_IndexFunc_LLint_Lint_tour_placeF1_f68ph_eq (N : Nat) (s : (List (List Int))) (f : Int) : m_slices_IndexFunc_LLint_Lint_tour_placeF1_f68ph (N + 1) (s, f) = obind (l_slices_IndexFunc_LLint_Lint_tour_placeF1_f68ph_1 N N (s, ((((List.length s) : Nat) : Int), ((0 : Int), f)))) fun z1 =>
  (match z1 with
  | .inl zy2 => some ((-(1 : Int)), zy2)
  | .inr zy3 => some (zy3.1, zy3.2)) := by kernel_rfl
theorem c_slices_IndexFunc_LLint_Lint_tour_placeF1_f68ph_ok (N : Nat) : (c_slices_IndexFunc_LLint_Lint_tour_placeF1_f68ph N).ok Try.prog := exF_ok (T := T) (CT := ct_slices_IndexFunc_LLint_Lint_tour_placeF1_f68ph) (N := N) (fun M => ⟨tOk, (ctAll_cons (c_tour_placeF1_ph_ok M) ctAll_nil), mixed⟩) Try.func67 (by kernel_rfl) (by kernel_rfl) p_slices_IndexFunc_LLint_Lint_tour_placeF1_f68ph [.h (.sl (.sl (.i .i64))), .cl (.func 68) [] [.k (.pt 4294967296 0)]] [(4294967296, .box 3 [.h (.i .i64)])] [(.sl (.sl (.i .i64))), (.i .i64)] r_slices_IndexFunc_LLint_Lint_tour_placeF1_f68ph true true [4294967296] (by kernel_rfl) (fun y => by kernel_rfl) (fun h => by cases h) (fun y => by kernel_rfl) (m_slices_IndexFunc_LLint_Lint_tour_placeF1_f68ph N) (fun x => by kernel_rfl)
/-! archipelago/tour.place -/
noncomputable def ct_tour_place (N : Nat) : List Ctr := [c_slices_IndexFunc_LLint_Lint_tour_placeF1_f68ph N]
def p_tour_place : Pl := .z
def r_tour_place : PS := ⟨[(4, .h (.i .i64))], [], [(.i .i64)]⟩
noncomputable def m_tour_place (N : Nat) : Int × (List (List Int)) × Int → Option (Int) := exF T ct_tour_place N (bodyOf Try.f59) 9 p_tour_place [.ag [.h (.i .i64), .h (.sl (.sl (.i .i64)))], .h (.i .i64)] [] [(.i .i64), (.sl (.sl (.i .i64))), (.i .i64)] r_tour_place
noncomputable def c_tour_place (N : Nat) : Ctr := ⟨59, [.ag [.h (.i .i64), .h (.sl (.sl (.i .i64)))], .h (.i .i64)], [], [(.i .i64), (.sl (.sl (.i .i64))), (.i .i64)], Tup r_tour_place.c, m_tour_place N, fun y _ k => k (resG T (mkPS 9 r_tour_place y) Try.f59.results.toList) (keepH' [] (mkPS 9 r_tour_place y).h), false, true⟩
theorem m_tour_place_eq (N : Nat) (f : Int) (f2 : (List (List Int))) (v : Int) : m_tour_place (N + 1) (f, f2, v) = obind (m_slices_IndexFunc_LLint_Lint_tour_placeF1_f68ph N (f2, v)) fun z1 =>
  some z1.1 := by kernel_rfl
theorem c_tour_place_ok (N : Nat) : (c_tour_place N).ok Try.prog := exF_ok (T := T) (CT := ct_tour_place) (N := N) (fun M => ⟨tOk, (ctAll_cons (c_slices_IndexFunc_LLint_Lint_tour_placeF1_f68ph_ok M) ctAll_nil), mixed⟩) Try.func59 (by kernel_rfl) (by kernel_rfl) p_tour_place [.ag [.h (.i .i64), .h (.sl (.sl (.i .i64)))], .h (.i .i64)] [] [(.i .i64), (.sl (.sl (.i .i64))), (.i .i64)] r_tour_place false true [] (by kernel_rfl) (fun y => by kernel_rfl) (fun _ => ⟨rfl, rfl⟩) (fun y => by kernel_rfl) (m_tour_place N) (fun x => by kernel_rfl)
/-! archipelago/tour.Of -/
noncomputable def ct_tour_Of (N : Nat) : List Ctr := [c_tour_in N, c_tour_Right N, c_tour_place N]
def p_tour_Of : Pl := .z
def r_tour_Of : PS := ⟨[(4, .h (.i .i64))], [], [(.i .i64)]⟩
noncomputable def m_tour_Of (N : Nat) : Int × (List (List Int)) × Int → Option (Int) := exF T ct_tour_Of N (bodyOf Try.f43) 18 p_tour_Of [.ag [.h (.i .i64), .h (.sl (.sl (.i .i64)))], .h (.i .i64)] [] [(.i .i64), (.sl (.sl (.i .i64))), (.i .i64)] r_tour_Of
noncomputable def c_tour_Of (N : Nat) : Ctr := ⟨43, [.ag [.h (.i .i64), .h (.sl (.sl (.i .i64)))], .h (.i .i64)], [], [(.i .i64), (.sl (.sl (.i .i64))), (.i .i64)], Tup r_tour_Of.c, m_tour_Of N, fun y _ k => k (resG T (mkPS 18 r_tour_Of y) Try.f43.results.toList) (keepH' [] (mkPS 18 r_tour_Of y).h), false, true⟩
theorem m_tour_Of_eq (N : Nat) (f : Int) (f2 : (List (List Int))) (v : Int) : m_tour_Of (N + 1) (f, f2, v) = obind (m_tour_in N (f, v)) fun z1 =>
  cond (!z1)
   (some (-(1 : Int)))
   (obind (m_tour_Right N (f, f2)) fun z2 =>
    cond (!z2)
     (some (-(1 : Int)))
     (obind (m_tour_place N (f, (f2, v))) fun z3 =>
      some z3)) := by kernel_rfl
theorem c_tour_Of_ok (N : Nat) : (c_tour_Of N).ok Try.prog := exF_ok (T := T) (CT := ct_tour_Of) (N := N) (fun M => ⟨tOk, (ctAll_cons (c_tour_in_ok M) (ctAll_cons (c_tour_Right_ok M) (ctAll_cons (c_tour_place_ok M) ctAll_nil))), mixed⟩) Try.func43 (by kernel_rfl) (by kernel_rfl) p_tour_Of [.ag [.h (.i .i64), .h (.sl (.sl (.i .i64)))], .h (.i .i64)] [] [(.i .i64), (.sl (.sl (.i .i64))), (.i .i64)] r_tour_Of false true [] (by kernel_rfl) (fun y => by kernel_rfl) (fun _ => ⟨rfl, rfl⟩) (fun y => by kernel_rfl) (m_tour_Of N) (fun x => by kernel_rfl)
/-! archipelago/forest.Least -/
noncomputable def ct_forest_Least (N : Nat) : List Ctr := [c_forest_there N, c_tour_Of N]
def p_forest_Least : Pl := .z
def r_forest_Least : PS := ⟨[(4, .h (.i .i64)), (5, .h (.i .i64))], [], [(.i .i64), (.i .i64)]⟩
noncomputable def m_forest_Least (N : Nat) : Int × (List (List Int)) × Int → Option (Int × Int) := exF T ct_forest_Least N (bodyOf Try.f29) 23 p_forest_Least [.ag [.h (.i .i64), .h (.sl (.sl (.i .i64)))], .h (.i .i64)] [] [(.i .i64), (.sl (.sl (.i .i64))), (.i .i64)] r_forest_Least
noncomputable def c_forest_Least (N : Nat) : Ctr := ⟨29, [.ag [.h (.i .i64), .h (.sl (.sl (.i .i64)))], .h (.i .i64)], [], [(.i .i64), (.sl (.sl (.i .i64))), (.i .i64)], Tup r_forest_Least.c, m_forest_Least N, fun y _ k => k (resG T (mkPS 23 r_forest_Least y) Try.f29.results.toList) (keepH' [] (mkPS 23 r_forest_Least y).h), false, true⟩
theorem m_forest_Least_eq (N : Nat) (f : Int) (f2 : (List (List Int))) (v : Int) : m_forest_Least (N + 1) (f, f2, v) = obind (m_forest_there N (f, (f2, [v]))) fun z1 =>
  cond (!(decide (z1 = (0 : Int))))
   (some ((0 : Int), z1))
   (obind (m_tour_Of N (f, (f2, v))) fun z2 =>
    obind (nthI f2 z2) fun z3 =>
    obind (nthI z3 (0 : Int)) fun z4 =>
    some (z4, (0 : Int))) := by kernel_rfl
theorem c_forest_Least_ok (N : Nat) : (c_forest_Least N).ok Try.prog := exF_ok (T := T) (CT := ct_forest_Least) (N := N) (fun M => ⟨tOk, (ctAll_cons (c_forest_there_ok M) (ctAll_cons (c_tour_Of_ok M) ctAll_nil)), mixed⟩) Try.func29 (by kernel_rfl) (by kernel_rfl) p_forest_Least [.ag [.h (.i .i64), .h (.sl (.sl (.i .i64)))], .h (.i .i64)] [] [(.i .i64), (.sl (.sl (.i .i64))), (.i .i64)] r_forest_Least false true [] (by kernel_rfl) (fun y => by kernel_rfl) (fun _ => ⟨rfl, rfl⟩) (fun y => by kernel_rfl) (m_forest_Least N) (fun x => by kernel_rfl)
/-! archipelago/span.Contract -/
noncomputable def ct_span_Contract (N : Nat) : List Ctr := [c_tour_Right N, c_span_asked N, c_forest_Least N]
def i_span_Contract_1 : PS := ⟨[(2, .k (.pt 900 0)), (7, .k (.ow 901)), (24, .h (.sl (.pr (.i .i64) (.i .i64)))), (25, .h (.i .i64)), (26, .h (.i .i64))], [(900, .box 24 [.h (.i .i64), .h (.sl (.sl (.i .i64)))]), (901, .arr 49 (.pr (.i .i64) (.i .i64)) true)], [(.sl (.pr (.i .i64) (.i .i64))), (.i .i64), (.i .i64), (.i .i64), (.sl (.sl (.i .i64))), (.sl (.pr (.i .i64) (.i .i64)))]⟩
def o_span_Contract_1 : List (Exit × PS) := [((.exit 0), ⟨[(7, .k (.ow 900))], [(900, .arr 49 (.pr (.i .i64) (.i .i64)) true)], [(.sl (.pr (.i .i64) (.i .i64)))]⟩)]
def p_span_Contract_1 : Pl := .z
noncomputable def l_span_Contract_1 (N : Nat) : Nat → (List (Int × Int)) × Int × Int × Int × (List (List Int)) × (List (Int × Int)) → Option ((List (Int × Int))) := loopF (exC T (ct_span_Contract N) N (codeAt [1, 1, 1, 1, 0, 1, 0, 0] (bodyOf Try.f11))) 52 i_span_Contract_1 o_span_Contract_1 p_span_Contract_1
def p_span_Contract : Pl := (.n .z (.n .z (.n .z (.n .z (.n (.n .z (.n (.loop i_span_Contract_1 o_span_Contract_1 p_span_Contract_1) .z)) .z)))))
def r_span_Contract : PS := ⟨[(4, .k (.ow 900)), (5, .h (.i .i64))], [(900, .arr 49 (.pr (.i .i64) (.i .i64)) true)], [(.i .i64), (.sl (.pr (.i .i64) (.i .i64)))]⟩
noncomputable def m_span_Contract (N : Nat) : Int × (List (List Int)) × (List (Int × Int)) → Option (Int × (List (Int × Int))) := exF T ct_span_Contract N (bodyOf Try.f11) 52 p_span_Contract [.ag [.h (.i .i64), .h (.sl (.sl (.i .i64)))], .h (.sl (.pr (.i .i64) (.i .i64)))] [] [(.i .i64), (.sl (.sl (.i .i64))), (.sl (.pr (.i .i64) (.i .i64)))] r_span_Contract
noncomputable def c_span_Contract (N : Nat) : Ctr := ⟨11, [.ag [.h (.i .i64), .h (.sl (.sl (.i .i64)))], .h (.sl (.pr (.i .i64) (.i .i64)))], [], [(.i .i64), (.sl (.sl (.i .i64))), (.sl (.pr (.i .i64) (.i .i64)))], Tup r_span_Contract.c, m_span_Contract N, fun y _ k => k (resG T (mkPS 52 r_span_Contract y) Try.f11.results.toList) (keepH' [900] (mkPS 52 r_span_Contract y).h), true, true⟩
theorem l_span_Contract_1_z (N : Nat) (v : (List (Int × Int)) × Int × Int × Int × (List (List Int)) × (List (Int × Int))) : l_span_Contract_1 N 0 v = none := by kernel_rfl
theorem l_span_Contract_1_s (N m : Nat) (v24 : (List (Int × Int))) (v25 : Int) (v26 : Int) (f : Int) (f2 : (List (List Int))) (out : (List (Int × Int))) : l_span_Contract_1 N (m + 1) (v24, v25, v26, f, f2, out) = cond (decide (v26 < v25))
   (obind (nthI v24 v26) fun z1 =>
    obind (m_forest_Least N (f, (f2, z1.1))) fun z2 =>
    obind (m_forest_Least N (f, (f2, z1.2))) fun z3 =>
    obind (appI (16 : Nat) out [(z2.1, z3.1)]) fun z4 =>
    (l_span_Contract_1 N m (v24, (v25, ((IntKind.wrap .i64 (v26 + (1 : Int))), (f, (f2, z4)))))))
   (some out) := by kernel_rfl
theorem m_span_Contract_eq (N : Nat) (f : Int) (f2 : (List (List Int))) (l : (List (Int × Int))) : m_span_Contract (N + 1) (f, f2, l) = obind (m_tour_Right N (f, f2)) fun z1 =>
  cond (!z1)
   (some ((1 : Int), []))
   (obind (m_span_asked N (f, l)) fun z2 =>
    cond (!(decide (z2 = (0 : Int))))
     (some (z2, []))
     (obind (l_span_Contract_1 N N (l, ((((List.length l) : Nat) : Int), ((0 : Int), (f, (f2, [])))))) fun z3 =>
      some ((0 : Int), z3))) := by kernel_rfl
theorem c_span_Contract_ok (N : Nat) : (c_span_Contract N).ok Try.prog := exF_ok (T := T) (CT := ct_span_Contract) (N := N) (fun M => ⟨tOk, (ctAll_cons (c_tour_Right_ok M) (ctAll_cons (c_span_asked_ok M) (ctAll_cons (c_forest_Least_ok M) ctAll_nil))), mixed⟩) Try.func11 (by kernel_rfl) (by kernel_rfl) p_span_Contract [.ag [.h (.i .i64), .h (.sl (.sl (.i .i64)))], .h (.sl (.pr (.i .i64) (.i .i64)))] [] [(.i .i64), (.sl (.sl (.i .i64))), (.sl (.pr (.i .i64) (.i .i64)))] r_span_Contract true true [900] (by kernel_rfl) (fun y => by kernel_rfl) (fun h => by cases h) (fun y => by kernel_rfl) (m_span_Contract N) (fun x => by kernel_rfl)
/-! archipelago/span.alone -/
noncomputable def ct_span_alone (N : Nat) : List Ctr := []
def i_span_alone_1 : PS := ⟨[(3, .k (.ow 900)), (8, .h (.i .i64)), (9, .h (.i .i64))], [(900, .arr 3 (.i .i64) true)], [(.i .i64), (.i .i64), (.sl (.i .i64))]⟩
def o_span_alone_1 : List (Exit × PS) := [((.exit 0), ⟨[(3, .k (.ow 900))], [(900, .arr 3 (.i .i64) true)], [(.sl (.i .i64))]⟩)]
def p_span_alone_1 : Pl := .z
noncomputable def l_span_alone_1 (N : Nat) : Nat → Int × Int × (List Int) → Option ((List Int)) := loopF (exC T (ct_span_alone N) N (codeAt [1, 1, 0, 1, 0, 0] (bodyOf Try.f24))) 18 i_span_alone_1 o_span_alone_1 p_span_alone_1
def p_span_alone : Pl := (.n .z (.n .z (.n (.n .z (.n (.loop i_span_alone_1 o_span_alone_1 p_span_alone_1) .z)) .z)))
def r_span_alone : PS := ⟨[(2, .k (.ow 900))], [(900, .arr 3 (.i .i64) true)], [(.sl (.i .i64))]⟩
noncomputable def m_span_alone (N : Nat) : Int → Option ((List Int)) := exF T ct_span_alone N (bodyOf Try.f24) 18 p_span_alone [.h (.i .i64)] [] [(.i .i64)] r_span_alone
noncomputable def c_span_alone (N : Nat) : Ctr := ⟨24, [.h (.i .i64)], [], [(.i .i64)], Tup r_span_alone.c, m_span_alone N, fun y _ k => k (resG T (mkPS 18 r_span_alone y) Try.f24.results.toList) (keepH' [900] (mkPS 18 r_span_alone y).h), true, true⟩
theorem l_span_alone_1_z (N : Nat) (v : Int × Int × (List Int)) : l_span_alone_1 N 0 v = none := by kernel_rfl
theorem l_span_alone_1_s (N m : Nat) (v8 : Int) (v9 : Int) (s : (List Int)) : l_span_alone_1 N (m + 1) (v8, v9, s) = cond (decide (v9 < v8))
   (obind (nthI s v9) fun z1 =>
    obind (nthI s v9) fun z2 =>
    (l_span_alone_1 N m (v8, ((IntKind.wrap .i64 (v9 + (1 : Int))), (List.set s (Int.toNat v9) v9)))))
   (some s) := by kernel_rfl
theorem m_span_alone_eq (N : Nat) (n : Int) : m_span_alone (N + 1) (n) = obind (makI n (8 : Nat)) fun z1 =>
  obind (l_span_alone_1 N N ((((List.length (List.replicate z1 (0 : Int))) : Nat) : Int), ((0 : Int), (List.replicate z1 (0 : Int))))) fun z2 =>
  some z2 := by kernel_rfl
theorem c_span_alone_ok (N : Nat) : (c_span_alone N).ok Try.prog := exF_ok (T := T) (CT := ct_span_alone) (N := N) (fun M => ⟨tOk, ctAll_nil, mixed⟩) Try.func24 (by kernel_rfl) (by kernel_rfl) p_span_alone [.h (.i .i64)] [] [(.i .i64)] r_span_alone true true [900] (by kernel_rfl) (fun y => by kernel_rfl) (fun h => by cases h) (fun y => by kernel_rfl) (m_span_alone N) (fun x => by kernel_rfl)
/-! (archipelago/span.sets).least -/
noncomputable def ct__span_sets_least_o (N : Nat) : List Ctr := []
def i__span_sets_least_o_1 : PS := ⟨[(0, .k (.ow 4294967296)), (1, .h (.i .i64))], [(4294967296, .arr 3 (.i .i64) true)], [(.i .i64), (.sl (.i .i64))]⟩
def o__span_sets_least_o_1 : List (Exit × PS) := [((.exit 0), ⟨[(1, .h (.i .i64))], [(4294967296, .arr 3 (.i .i64) true)], [(.i .i64), (.sl (.i .i64))]⟩)]
def p__span_sets_least_o_1 : Pl := .z
noncomputable def l__span_sets_least_o_1 (N : Nat) : Nat → Int × (List Int) → Option (Int × (List Int)) := loopF (exC T (ct__span_sets_least_o N) N (codeAt [1, 0, 0, 0] (bodyOf Try.f31))) 26 i__span_sets_least_o_1 o__span_sets_least_o_1 p__span_sets_least_o_1
def p__span_sets_least_o : Pl := (.n .z (.n (.n (.loop i__span_sets_least_o_1 o__span_sets_least_o_1 p__span_sets_least_o_1) .z) .z))
def r__span_sets_least_o : PS := ⟨[(4, .h (.i .i64))], [(4294967296, .arr 3 (.i .i64) true)], [(.i .i64), (.sl (.i .i64))]⟩
noncomputable def m__span_sets_least_o (N : Nat) : Int × (List Int) → Option (Int × (List Int)) := exF T ct__span_sets_least_o N (bodyOf Try.f31) 26 p__span_sets_least_o [.k (.ow 4294967296), .h (.i .i64)] [(4294967296, .arr 3 (.i .i64) true)] [(.i .i64), (.sl (.i .i64))] r__span_sets_least_o
noncomputable def c__span_sets_least_o (N : Nat) : Ctr := ⟨31, [.k (.ow 4294967296), .h (.i .i64)], [(4294967296, .arr 3 (.i .i64) true)], [(.i .i64), (.sl (.i .i64))], Tup r__span_sets_least_o.c, m__span_sets_least_o N, fun y _ k => k (resG T (mkPS 26 r__span_sets_least_o y) Try.f31.results.toList) (keepH' [4294967296] (mkPS 26 r__span_sets_least_o y).h), true, true⟩
theorem l__span_sets_least_o_1_z (N : Nat) (v : Int × (List Int)) : l__span_sets_least_o_1 N 0 v = none := by kernel_rfl
theorem l__span_sets_least_o_1_s (N m : Nat) (v : Int) (s : (List Int)) : l__span_sets_least_o_1 N (m + 1) (v, s) = obind (nthI s v) fun z1 =>
  obind (nthI s v) fun z2 =>
  cond (!(decide (z2 = v)))
   (obind (nthI s v) fun z3 =>
    obind (nthI s v) fun z4 =>
    obind (nthI s z4) fun z5 =>
    obind (nthI s z4) fun z6 =>
    obind (nthI s v) fun z7 =>
    obind (nthI s v) fun z8 =>
    obind (nthI (List.set s (Int.toNat v) z6) v) fun z9 =>
    obind (nthI (List.set s (Int.toNat v) z6) v) fun z10 =>
    (l__span_sets_least_o_1 N m (z10, (List.set s (Int.toNat v) z6))))
   (some (v, s)) := by kernel_rfl
theorem m__span_sets_least_o_eq (N : Nat) (v : Int) (s : (List Int)) : m__span_sets_least_o (N + 1) (v, s) = obind (l__span_sets_least_o_1 N N (v, s)) fun z1 =>
  some (z1.1, z1.2) := by kernel_rfl
theorem c__span_sets_least_o_ok (N : Nat) : (c__span_sets_least_o N).ok Try.prog := exF_ok (T := T) (CT := ct__span_sets_least_o) (N := N) (fun M => ⟨tOk, ctAll_nil, mixed⟩) Try.func31 (by kernel_rfl) (by kernel_rfl) p__span_sets_least_o [.k (.ow 4294967296), .h (.i .i64)] [(4294967296, .arr 3 (.i .i64) true)] [(.i .i64), (.sl (.i .i64))] r__span_sets_least_o true true [4294967296] (by kernel_rfl) (fun y => by kernel_rfl) (fun h => by cases h) (fun y => by kernel_rfl) (m__span_sets_least_o N) (fun x => by kernel_rfl)
/-! (archipelago/span.sets).join -/
noncomputable def ct__span_sets_join_o (N : Nat) : List Ctr := [c__span_sets_least_o N]
def p__span_sets_join_o : Pl := .z
def r__span_sets_join_o : PS := ⟨[(6, .h .b)], [(4294967296, .arr 3 (.i .i64) true)], [.b, (.sl (.i .i64))]⟩
noncomputable def m__span_sets_join_o (N : Nat) : Int × Int × (List Int) → Option (Bool × (List Int)) := exF T ct__span_sets_join_o N (bodyOf Try.f35) 24 p__span_sets_join_o [.k (.ow 4294967296), .h (.i .i64), .h (.i .i64)] [(4294967296, .arr 3 (.i .i64) true)] [(.i .i64), (.i .i64), (.sl (.i .i64))] r__span_sets_join_o
noncomputable def c__span_sets_join_o (N : Nat) : Ctr := ⟨35, [.k (.ow 4294967296), .h (.i .i64), .h (.i .i64)], [(4294967296, .arr 3 (.i .i64) true)], [(.i .i64), (.i .i64), (.sl (.i .i64))], Tup r__span_sets_join_o.c, m__span_sets_join_o N, fun y _ k => k (resG T (mkPS 24 r__span_sets_join_o y) Try.f35.results.toList) (keepH' [4294967296] (mkPS 24 r__span_sets_join_o y).h), true, true⟩
theorem m__span_sets_join_o_eq (N : Nat) (u : Int) (v : Int) (s : (List Int)) : m__span_sets_join_o (N + 1) (u, v, s) = obind (m__span_sets_least_o N (u, s)) fun z1 =>
  obind (m__span_sets_least_o N (v, z1.2)) fun z2 =>
  obind (nthI z2.2 (if (z2.1 > z1.1) then z2.1 else z1.1)) fun z3 =>
  obind (nthI z2.2 (if (z2.1 > z1.1) then z2.1 else z1.1)) fun z4 =>
  some ((!(decide (z1.1 = z2.1))), (List.set z2.2 (Int.toNat (if (z2.1 > z1.1) then z2.1 else z1.1)) (if (z2.1 < z1.1) then z2.1 else z1.1))) := by kernel_rfl
theorem c__span_sets_join_o_ok (N : Nat) : (c__span_sets_join_o N).ok Try.prog := exF_ok (T := T) (CT := ct__span_sets_join_o) (N := N) (fun M => ⟨tOk, (ctAll_cons (c__span_sets_least_o_ok M) ctAll_nil), mixed⟩) Try.func35 (by kernel_rfl) (by kernel_rfl) p__span_sets_join_o [.k (.ow 4294967296), .h (.i .i64), .h (.i .i64)] [(4294967296, .arr 3 (.i .i64) true)] [(.i .i64), (.i .i64), (.sl (.i .i64))] r__span_sets_join_o true true [4294967296] (by kernel_rfl) (fun y => by kernel_rfl) (fun h => by cases h) (fun y => by kernel_rfl) (m__span_sets_join_o N) (fun x => by kernel_rfl)
/-! archipelago/span.each -/
noncomputable def ct_span_each__span_sets_join_f35o (N : Nat) : List Ctr := [c__span_sets_join_o N]
def i_span_each__span_sets_join_f35o_1 : PS := ⟨[(1, .cl (.func 35) [.k (.ow 4294967296)] []), (5, .k (.ow 900)), (8, .h (.sl (.pr (.i .i64) (.i .i64)))), (9, .h (.i .i64)), (10, .h (.i .i64))], [(4294967296, .arr 3 (.i .i64) true), (900, .arr 4 .b true)], [(.sl (.pr (.i .i64) (.i .i64))), (.i .i64), (.i .i64), (.sl (.i .i64)), (.sl .b)]⟩
def o_span_each__span_sets_join_f35o_1 : List (Exit × PS) := [((.exit 0), ⟨[(5, .k (.ow 900))], [(900, .arr 4 .b true), (4294967296, .arr 3 (.i .i64) true)], [(.sl .b), (.sl (.i .i64))]⟩)]
def p_span_each__span_sets_join_f35o_1 : Pl := .z
noncomputable def l_span_each__span_sets_join_f35o_1 (N : Nat) : Nat → (List (Int × Int)) × Int × Int × (List Int) × (List Bool) → Option ((List Bool) × (List Int)) := loopF (exC T (ct_span_each__span_sets_join_f35o N) N (codeAt [1, 1, 0, 1, 0, 0] (bodyOf Try.f34))) 25 i_span_each__span_sets_join_f35o_1 o_span_each__span_sets_join_f35o_1 p_span_each__span_sets_join_f35o_1
def p_span_each__span_sets_join_f35o : Pl := (.n .z (.n .z (.n (.n .z (.n (.loop i_span_each__span_sets_join_f35o_1 o_span_each__span_sets_join_f35o_1 p_span_each__span_sets_join_f35o_1) .z)) .z)))
def r_span_each__span_sets_join_f35o : PS := ⟨[(4, .k (.ow 900))], [(900, .arr 4 .b true), (4294967296, .arr 3 (.i .i64) true)], [(.sl .b), (.sl (.i .i64))]⟩
noncomputable def m_span_each__span_sets_join_f35o (N : Nat) : (List (Int × Int)) × (List Int) → Option ((List Bool) × (List Int)) := exF T ct_span_each__span_sets_join_f35o N (bodyOf Try.f34) 25 p_span_each__span_sets_join_f35o [.h (.sl (.pr (.i .i64) (.i .i64))), .cl (.func 35) [.k (.ow 4294967296)] []] [(4294967296, .arr 3 (.i .i64) true)] [(.sl (.pr (.i .i64) (.i .i64))), (.sl (.i .i64))] r_span_each__span_sets_join_f35o
noncomputable def c_span_each__span_sets_join_f35o (N : Nat) : Ctr := ⟨34, [.h (.sl (.pr (.i .i64) (.i .i64))), .cl (.func 35) [.k (.ow 4294967296)] []], [(4294967296, .arr 3 (.i .i64) true)], [(.sl (.pr (.i .i64) (.i .i64))), (.sl (.i .i64))], Tup r_span_each__span_sets_join_f35o.c, m_span_each__span_sets_join_f35o N, fun y _ k => k (resG T (mkPS 25 r_span_each__span_sets_join_f35o y) Try.f34.results.toList) (keepH' [900, 4294967296] (mkPS 25 r_span_each__span_sets_join_f35o y).h), true, true⟩
theorem l_span_each__span_sets_join_f35o_1_z (N : Nat) (v : (List (Int × Int)) × Int × Int × (List Int) × (List Bool)) : l_span_each__span_sets_join_f35o_1 N 0 v = none := by kernel_rfl
theorem l_span_each__span_sets_join_f35o_1_s (N m : Nat) (v8 : (List (Int × Int))) (v9 : Int) (v10 : Int) (deed : (List Int)) (out : (List Bool)) : l_span_each__span_sets_join_f35o_1 N (m + 1) (v8, v9, v10, deed, out) = cond (decide (v10 < v9))
   (obind (nthI v8 v10) fun z1 =>
    obind (m__span_sets_join_o N (z1.1, (z1.2, deed))) fun z2 =>
    obind (appI (1 : Nat) out [z2.1]) fun z3 =>
    (l_span_each__span_sets_join_f35o_1 N m (v8, (v9, ((IntKind.wrap .i64 (v10 + (1 : Int))), (z2.2, z3))))))
   (some (out, deed)) := by kernel_rfl
theorem m_span_each__span_sets_join_f35o_eq (N : Nat) (l : (List (Int × Int))) (deed : (List Int)) : m_span_each__span_sets_join_f35o (N + 1) (l, deed) = obind (l_span_each__span_sets_join_f35o_1 N N (l, ((((List.length l) : Nat) : Int), ((0 : Int), (deed, []))))) fun z1 =>
  some (z1.1, z1.2) := by kernel_rfl
theorem c_span_each__span_sets_join_f35o_ok (N : Nat) : (c_span_each__span_sets_join_f35o N).ok Try.prog := exF_ok (T := T) (CT := ct_span_each__span_sets_join_f35o) (N := N) (fun M => ⟨tOk, (ctAll_cons (c__span_sets_join_o_ok M) ctAll_nil), mixed⟩) Try.func34 (by kernel_rfl) (by kernel_rfl) p_span_each__span_sets_join_f35o [.h (.sl (.pr (.i .i64) (.i .i64))), .cl (.func 35) [.k (.ow 4294967296)] []] [(4294967296, .arr 3 (.i .i64) true)] [(.sl (.pr (.i .i64) (.i .i64))), (.sl (.i .i64))] r_span_each__span_sets_join_f35o true true [900, 4294967296] (by kernel_rfl) (fun y => by kernel_rfl) (fun h => by cases h) (fun y => by kernel_rfl) (m_span_each__span_sets_join_f35o N) (fun x => by kernel_rfl)
/-! (archipelago/span.sets).joins -/
noncomputable def ct__span_sets_joins_o (N : Nat) : List Ctr := [c_span_each__span_sets_join_f35o N]
def p__span_sets_joins_o : Pl := .z
def r__span_sets_joins_o : PS := ⟨[(4, .k (.ow 900))], [(900, .arr 4 .b true), (4294967296, .arr 3 (.i .i64) true)], [(.sl .b), (.sl (.i .i64))]⟩
noncomputable def m__span_sets_joins_o (N : Nat) : (List (Int × Int)) × (List Int) → Option ((List Bool) × (List Int)) := exF T ct__span_sets_joins_o N (bodyOf Try.f25) 9 p__span_sets_joins_o [.k (.ow 4294967296), .h (.sl (.pr (.i .i64) (.i .i64)))] [(4294967296, .arr 3 (.i .i64) true)] [(.sl (.pr (.i .i64) (.i .i64))), (.sl (.i .i64))] r__span_sets_joins_o
noncomputable def c__span_sets_joins_o (N : Nat) : Ctr := ⟨25, [.k (.ow 4294967296), .h (.sl (.pr (.i .i64) (.i .i64)))], [(4294967296, .arr 3 (.i .i64) true)], [(.sl (.pr (.i .i64) (.i .i64))), (.sl (.i .i64))], Tup r__span_sets_joins_o.c, m__span_sets_joins_o N, fun y _ k => k (resG T (mkPS 9 r__span_sets_joins_o y) Try.f25.results.toList) (keepH' [900, 4294967296] (mkPS 9 r__span_sets_joins_o y).h), true, true⟩
theorem m__span_sets_joins_o_eq (N : Nat) (l : (List (Int × Int))) (s : (List Int)) : m__span_sets_joins_o (N + 1) (l, s) = obind (m_span_each__span_sets_join_f35o N (l, s)) fun z1 =>
  some (z1.1, z1.2) := by kernel_rfl
theorem c__span_sets_joins_o_ok (N : Nat) : (c__span_sets_joins_o N).ok Try.prog := exF_ok (T := T) (CT := ct__span_sets_joins_o) (N := N) (fun M => ⟨tOk, (ctAll_cons (c_span_each__span_sets_join_f35o_ok M) ctAll_nil), mixed⟩) Try.func25 (by kernel_rfl) (by kernel_rfl) p__span_sets_joins_o [.k (.ow 4294967296), .h (.sl (.pr (.i .i64) (.i .i64)))] [(4294967296, .arr 3 (.i .i64) true)] [(.sl (.pr (.i .i64) (.i .i64))), (.sl (.i .i64))] r__span_sets_joins_o true true [900, 4294967296] (by kernel_rfl) (fun y => by kernel_rfl) (fun h => by cases h) (fun y => by kernel_rfl) (m__span_sets_joins_o N) (fun x => by kernel_rfl)
/-! archipelago/span.Choose -/
noncomputable def ct_span_Choose (N : Nat) : List Ctr := [c_span_Contract N, c_span_alone N, c__span_sets_joins_o N]
def p_span_Choose : Pl := .z
def r_span_Choose : PS := ⟨[(4, .k (.ow 900)), (5, .h (.i .i64))], [(900, .arr 4 .b true)], [(.i .i64), (.sl .b)]⟩
noncomputable def m_span_Choose (N : Nat) : Int × (List (List Int)) × (List (Int × Int)) → Option (Int × (List Bool)) := exF T ct_span_Choose N (bodyOf Try.f9) 22 p_span_Choose [.ag [.h (.i .i64), .h (.sl (.sl (.i .i64)))], .h (.sl (.pr (.i .i64) (.i .i64)))] [] [(.i .i64), (.sl (.sl (.i .i64))), (.sl (.pr (.i .i64) (.i .i64)))] r_span_Choose
noncomputable def c_span_Choose (N : Nat) : Ctr := ⟨9, [.ag [.h (.i .i64), .h (.sl (.sl (.i .i64)))], .h (.sl (.pr (.i .i64) (.i .i64)))], [], [(.i .i64), (.sl (.sl (.i .i64))), (.sl (.pr (.i .i64) (.i .i64)))], Tup r_span_Choose.c, m_span_Choose N, fun y _ k => k (resG T (mkPS 22 r_span_Choose y) Try.f9.results.toList) (keepH' [900] (mkPS 22 r_span_Choose y).h), true, true⟩
theorem m_span_Choose_eq (N : Nat) (f : Int) (f2 : (List (List Int))) (l : (List (Int × Int))) : m_span_Choose (N + 1) (f, f2, l) = obind (m_span_Contract N (f, (f2, l))) fun z1 =>
  cond (!(decide (z1.1 = (0 : Int))))
   (some (z1.1, []))
   (obind (m_span_alone N f) fun z2 =>
    obind (m__span_sets_joins_o N (z1.2, z2)) fun z3 =>
    some ((0 : Int), z3.1)) := by kernel_rfl
theorem c_span_Choose_ok (N : Nat) : (c_span_Choose N).ok Try.prog := exF_ok (T := T) (CT := ct_span_Choose) (N := N) (fun M => ⟨tOk, (ctAll_cons (c_span_Contract_ok M) (ctAll_cons (c_span_alone_ok M) (ctAll_cons (c__span_sets_joins_o_ok M) ctAll_nil))), mixed⟩) Try.func9 (by kernel_rfl) (by kernel_rfl) p_span_Choose [.ag [.h (.i .i64), .h (.sl (.sl (.i .i64)))], .h (.sl (.pr (.i .i64) (.i .i64)))] [] [(.i .i64), (.sl (.sl (.i .i64))), (.sl (.pr (.i .i64) (.i .i64)))] r_span_Choose true true [900] (by kernel_rfl) (fun y => by kernel_rfl) (fun h => by cases h) (fun y => by kernel_rfl) (m_span_Choose N) (fun x => by kernel_rfl)
/-! archipelago/span.Classes -/
noncomputable def ct_span_Classes (N : Nat) : List Ctr := [c_span_asked N, c_span_alone N, c__span_sets_joins_o N, c__span_sets_least_o N]
def i_span_Classes_1 : PS := ⟨[(7, .k (.ow 900)), (21, .h (.i .i64)), (22, .h (.i .i64))], [(900, .arr 3 (.i .i64) true)], [(.i .i64), (.i .i64), (.sl (.i .i64))]⟩
def o_span_Classes_1 : List (Exit × PS) := [((.exit 0), ⟨[(7, .k (.ow 900))], [(900, .arr 3 (.i .i64) true)], [(.sl (.i .i64))]⟩)]
def p_span_Classes_1 : Pl := .z
noncomputable def l_span_Classes_1 (N : Nat) : Nat → Int × Int × (List Int) → Option ((List Int)) := loopF (exC T (ct_span_Classes N) N (codeAt [1, 1, 1, 1, 0, 1, 0, 0] (bodyOf Try.f13))) 33 i_span_Classes_1 o_span_Classes_1 p_span_Classes_1
def p_span_Classes : Pl := (.n .z (.n .z (.n .z (.n .z (.n (.n .z (.n (.loop i_span_Classes_1 o_span_Classes_1 p_span_Classes_1) .z)) .z)))))
def r_span_Classes : PS := ⟨[(4, .k (.ow 900)), (5, .h (.i .i64))], [(900, .arr 3 (.i .i64) true)], [(.i .i64), (.sl (.i .i64))]⟩
noncomputable def m_span_Classes (N : Nat) : Int × (List (Int × Int)) → Option (Int × (List Int)) := exF T ct_span_Classes N (bodyOf Try.f13) 33 p_span_Classes [.h (.i .i64), .h (.sl (.pr (.i .i64) (.i .i64)))] [] [(.i .i64), (.sl (.pr (.i .i64) (.i .i64)))] r_span_Classes
noncomputable def c_span_Classes (N : Nat) : Ctr := ⟨13, [.h (.i .i64), .h (.sl (.pr (.i .i64) (.i .i64)))], [], [(.i .i64), (.sl (.pr (.i .i64) (.i .i64)))], Tup r_span_Classes.c, m_span_Classes N, fun y _ k => k (resG T (mkPS 33 r_span_Classes y) Try.f13.results.toList) (keepH' [900] (mkPS 33 r_span_Classes y).h), true, true⟩
theorem l_span_Classes_1_z (N : Nat) (v : Int × Int × (List Int)) : l_span_Classes_1 N 0 v = none := by kernel_rfl
theorem l_span_Classes_1_s (N m : Nat) (v21 : Int) (v22 : Int) (s : (List Int)) : l_span_Classes_1 N (m + 1) (v21, v22, s) = cond (decide (v22 < v21))
   (obind (m__span_sets_least_o N (v22, s)) fun z1 =>
    obind (nthI z1.2 v22) fun z2 =>
    obind (nthI z1.2 v22) fun z3 =>
    (l_span_Classes_1 N m (v21, ((IntKind.wrap .i64 (v22 + (1 : Int))), (List.set z1.2 (Int.toNat v22) z1.1)))))
   (some s) := by kernel_rfl
theorem m_span_Classes_eq (N : Nat) (n : Int) (l : (List (Int × Int))) : m_span_Classes (N + 1) (n, l) = obind (m_span_asked N (n, l)) fun z1 =>
  cond (!(decide (z1 = (0 : Int))))
   (some (z1, []))
   (obind (m_span_alone N n) fun z2 =>
    obind (m__span_sets_joins_o N (l, z2)) fun z3 =>
    obind (l_span_Classes_1 N N ((((List.length z3.2) : Nat) : Int), ((0 : Int), z3.2))) fun z4 =>
    some ((0 : Int), z4)) := by kernel_rfl
theorem c_span_Classes_ok (N : Nat) : (c_span_Classes N).ok Try.prog := exF_ok (T := T) (CT := ct_span_Classes) (N := N) (fun M => ⟨tOk, (ctAll_cons (c_span_asked_ok M) (ctAll_cons (c_span_alone_ok M) (ctAll_cons (c__span_sets_joins_o_ok M) (ctAll_cons (c__span_sets_least_o_ok M) ctAll_nil)))), mixed⟩) Try.func13 (by kernel_rfl) (by kernel_rfl) p_span_Classes [.h (.i .i64), .h (.sl (.pr (.i .i64) (.i .i64)))] [] [(.i .i64), (.sl (.pr (.i .i64) (.i .i64)))] r_span_Classes true true [900] (by kernel_rfl) (fun y => by kernel_rfl) (fun h => by cases h) (fun y => by kernel_rfl) (m_span_Classes N) (fun x => by kernel_rfl)
/-! archipelago/span.Spanning -/
noncomputable def ct_span_Spanning (N : Nat) : List Ctr := [c_span_asked N, c_span_alone N, c__span_sets_joins_o N]
def i_span_Spanning_1 : PS := ⟨[(1, .h (.sl (.pr (.i .i64) (.i .i64)))), (7, .k (.ow 901)), (19, .k (.ow 900)), (20, .h (.i .i64)), (21, .h (.i .i64))], [(901, .arr 49 (.pr (.i .i64) (.i .i64)) true), (900, .arr 4 .b true)], [(.sl (.pr (.i .i64) (.i .i64))), (.i .i64), (.i .i64), (.sl (.pr (.i .i64) (.i .i64))), (.sl .b)]⟩
def o_span_Spanning_1 : List (Exit × PS) := [((.exit 0), ⟨[(7, .k (.ow 900))], [(900, .arr 49 (.pr (.i .i64) (.i .i64)) true)], [(.sl (.pr (.i .i64) (.i .i64)))]⟩)]
def p_span_Spanning_1 : Pl := .z
noncomputable def l_span_Spanning_1 (N : Nat) : Nat → (List (Int × Int)) × Int × Int × (List (Int × Int)) × (List Bool) → Option ((List (Int × Int))) := loopF (exC T (ct_span_Spanning N) N (codeAt [1, 1, 1, 0, 1, 0, 0] (bodyOf Try.f15))) 36 i_span_Spanning_1 o_span_Spanning_1 p_span_Spanning_1
def p_span_Spanning : Pl := (.n .z (.n .z (.n .z (.n (.n .z (.n (.loop i_span_Spanning_1 o_span_Spanning_1 p_span_Spanning_1) .z)) .z))))
def r_span_Spanning : PS := ⟨[(4, .k (.ow 900)), (5, .h (.i .i64))], [(900, .arr 49 (.pr (.i .i64) (.i .i64)) true)], [(.i .i64), (.sl (.pr (.i .i64) (.i .i64)))]⟩
noncomputable def m_span_Spanning (N : Nat) : Int × (List (Int × Int)) → Option (Int × (List (Int × Int))) := exF T ct_span_Spanning N (bodyOf Try.f15) 36 p_span_Spanning [.h (.i .i64), .h (.sl (.pr (.i .i64) (.i .i64)))] [] [(.i .i64), (.sl (.pr (.i .i64) (.i .i64)))] r_span_Spanning
noncomputable def c_span_Spanning (N : Nat) : Ctr := ⟨15, [.h (.i .i64), .h (.sl (.pr (.i .i64) (.i .i64)))], [], [(.i .i64), (.sl (.pr (.i .i64) (.i .i64)))], Tup r_span_Spanning.c, m_span_Spanning N, fun y _ k => k (resG T (mkPS 36 r_span_Spanning y) Try.f15.results.toList) (keepH' [900] (mkPS 36 r_span_Spanning y).h), true, true⟩
theorem l_span_Spanning_1_z (N : Nat) (v : (List (Int × Int)) × Int × Int × (List (Int × Int)) × (List Bool)) : l_span_Spanning_1 N 0 v = none := by kernel_rfl
theorem l_span_Spanning_1_s (N m : Nat) (l : (List (Int × Int))) (v20 : Int) (v21 : Int) (out : (List (Int × Int))) (v19 : (List Bool)) : l_span_Spanning_1 N (m + 1) (l, v20, v21, out, v19) = cond (decide (v21 < v20))
   (obind (nthI v19 v21) fun z1 =>
    obind (nthI v19 v21) fun z2 =>
    cond z2
     (obind (nthI l v21) fun z3 =>
      obind (appI (16 : Nat) out [(z3.1, z3.2)]) fun z4 =>
      (l_span_Spanning_1 N m (l, (v20, ((IntKind.wrap .i64 (v21 + (1 : Int))), (z4, v19))))))
     ((l_span_Spanning_1 N m (l, (v20, ((IntKind.wrap .i64 (v21 + (1 : Int))), (out, v19)))))))
   (some out) := by kernel_rfl
theorem m_span_Spanning_eq (N : Nat) (n : Int) (l : (List (Int × Int))) : m_span_Spanning (N + 1) (n, l) = obind (m_span_asked N (n, l)) fun z1 =>
  cond (!(decide (z1 = (0 : Int))))
   (some (z1, []))
   (obind (m_span_alone N n) fun z2 =>
    obind (m__span_sets_joins_o N (l, z2)) fun z3 =>
    obind (l_span_Spanning_1 N N (l, ((((List.length z3.1) : Nat) : Int), ((0 : Int), ([], z3.1))))) fun z4 =>
    some ((0 : Int), z4)) := by kernel_rfl
theorem c_span_Spanning_ok (N : Nat) : (c_span_Spanning N).ok Try.prog := exF_ok (T := T) (CT := ct_span_Spanning) (N := N) (fun M => ⟨tOk, (ctAll_cons (c_span_asked_ok M) (ctAll_cons (c_span_alone_ok M) (ctAll_cons (c__span_sets_joins_o_ok M) ctAll_nil))), mixed⟩) Try.func15 (by kernel_rfl) (by kernel_rfl) p_span_Spanning [.h (.i .i64), .h (.sl (.pr (.i .i64) (.i .i64)))] [] [(.i .i64), (.sl (.pr (.i .i64) (.i .i64)))] r_span_Spanning true true [900] (by kernel_rfl) (fun y => by kernel_rfl) (fun h => by cases h) (fun y => by kernel_rfl) (m_span_Spanning N) (fun x => by kernel_rfl)
/-! archipelago/span.Count -/
noncomputable def ct_span_Count (N : Nat) : List Ctr := [c_span_Classes N]
def i_span_Count_1 : PS := ⟨[(7, .h (.i .i64)), (8, .h (.i .i64)), (17, .k (.ow 900)), (18, .h (.i .i64)), (19, .h (.i .i64))], [(900, .arr 3 (.i .i64) true)], [(.i .i64), (.i .i64), (.i .i64), (.i .i64), (.sl (.i .i64))]⟩
def o_span_Count_1 : List (Exit × PS) := [((.exit 0), ⟨[(7, .h (.i .i64)), (8, .h (.i .i64))], [], [(.i .i64), (.i .i64)]⟩)]
def p_span_Count_1 : Pl := .z
noncomputable def l_span_Count_1 (N : Nat) : Nat → Int × Int × Int × Int × (List Int) → Option (Int × Int) := loopF (exC T (ct_span_Count N) N (codeAt [1, 1, 1, 0, 1, 0, 0] (bodyOf Try.f17))) 32 i_span_Count_1 o_span_Count_1 p_span_Count_1
def p_span_Count : Pl := (.n .z (.n .z (.n .z (.n (.n .z (.n (.loop i_span_Count_1 o_span_Count_1 p_span_Count_1) .z)) .z))))
def r_span_Count : PS := ⟨[(4, .h (.i .i64)), (5, .h (.i .i64))], [], [(.i .i64), (.i .i64)]⟩
noncomputable def m_span_Count (N : Nat) : Int × (List (Int × Int)) → Option (Int × Int) := exF T ct_span_Count N (bodyOf Try.f17) 32 p_span_Count [.h (.i .i64), .h (.sl (.pr (.i .i64) (.i .i64)))] [] [(.i .i64), (.sl (.pr (.i .i64) (.i .i64)))] r_span_Count
noncomputable def c_span_Count (N : Nat) : Ctr := ⟨17, [.h (.i .i64), .h (.sl (.pr (.i .i64) (.i .i64)))], [], [(.i .i64), (.sl (.pr (.i .i64) (.i .i64)))], Tup r_span_Count.c, m_span_Count N, fun y _ k => k (resG T (mkPS 32 r_span_Count y) Try.f17.results.toList) (keepH' [] (mkPS 32 r_span_Count y).h), false, true⟩
theorem l_span_Count_1_z (N : Nat) (v : Int × Int × Int × Int × (List Int)) : l_span_Count_1 N 0 v = none := by kernel_rfl
theorem l_span_Count_1_s (N m : Nat) (e : Int) (k : Int) (v18 : Int) (v19 : Int) (v17 : (List Int)) : l_span_Count_1 N (m + 1) (e, k, v18, v19, v17) = cond (decide (v19 < v18))
   (obind (nthI v17 v19) fun z1 =>
    obind (nthI v17 v19) fun z2 =>
    cond (decide (z2 = v19))
     ((l_span_Count_1 N m (e, ((IntKind.wrap .i64 (k + (1 : Int))), (v18, ((IntKind.wrap .i64 (v19 + (1 : Int))), v17))))))
     ((l_span_Count_1 N m (e, (k, (v18, ((IntKind.wrap .i64 (v19 + (1 : Int))), v17)))))))
   (some (e, k)) := by kernel_rfl
theorem m_span_Count_eq (N : Nat) (n : Int) (l : (List (Int × Int))) : m_span_Count (N + 1) (n, l) = obind (m_span_Classes N (n, l)) fun z1 =>
  obind (l_span_Count_1 N N (z1.1, ((0 : Int), ((((List.length z1.2) : Nat) : Int), ((0 : Int), z1.2))))) fun z2 =>
  some (z2.2, z2.1) := by kernel_rfl
theorem c_span_Count_ok (N : Nat) : (c_span_Count N).ok Try.prog := exF_ok (T := T) (CT := ct_span_Count) (N := N) (fun M => ⟨tOk, (ctAll_cons (c_span_Classes_ok M) ctAll_nil), mixed⟩) Try.func17 (by kernel_rfl) (by kernel_rfl) p_span_Count [.h (.i .i64), .h (.sl (.pr (.i .i64) (.i .i64)))] [] [(.i .i64), (.sl (.pr (.i .i64) (.i .i64)))] r_span_Count false true [] (by kernel_rfl) (fun y => by kernel_rfl) (fun _ => ⟨rfl, rfl⟩) (fun y => by kernel_rfl) (m_span_Count N) (fun x => by kernel_rfl)
/-! archipelago/archipelagoref19.Bools -/
noncomputable def ct_ref19_Bools (N : Nat) : List Ctr := []
def i_ref19_Bools_1 : PS := ⟨[(0, .h (.sl .b)), (1, .h (.sl .b)), (5, .h (.i .i64))], [], [(.sl .b), (.sl .b), (.i .i64)]⟩
def o_ref19_Bools_1 : List (Exit × PS) := [((.exit 0), ⟨[], [], []⟩), (.ret, ⟨[(4, .h .b)], [], [.b]⟩)]
def p_ref19_Bools_1 : Pl := .z
noncomputable def l_ref19_Bools_1 (N : Nat) : Nat → (List Bool) × (List Bool) × Int → Option ((Unit) ⊕ (Bool)) := loopF (exC T (ct_ref19_Bools N) N (codeAt [1, 1, 0, 1, 0, 0] (bodyOf Try.f19))) 26 i_ref19_Bools_1 o_ref19_Bools_1 p_ref19_Bools_1
def p_ref19_Bools : Pl := (.n .z (.n .z (.n (.n .z (.n (.loop i_ref19_Bools_1 o_ref19_Bools_1 p_ref19_Bools_1) .z)) .z)))
def r_ref19_Bools : PS := ⟨[(4, .h .b)], [], [.b]⟩
noncomputable def m_ref19_Bools (N : Nat) : (List Bool) × (List Bool) → Option (Bool) := exF T ct_ref19_Bools N (bodyOf Try.f19) 26 p_ref19_Bools [.h (.sl .b), .h (.sl .b)] [] [(.sl .b), (.sl .b)] r_ref19_Bools
noncomputable def c_ref19_Bools (N : Nat) : Ctr := ⟨19, [.h (.sl .b), .h (.sl .b)], [], [(.sl .b), (.sl .b)], Tup r_ref19_Bools.c, m_ref19_Bools N, fun y _ k => k (resG T (mkPS 26 r_ref19_Bools y) Try.f19.results.toList) (keepH' [] (mkPS 26 r_ref19_Bools y).h), false, true⟩
theorem l_ref19_Bools_1_z (N : Nat) (v : (List Bool) × (List Bool) × Int) : l_ref19_Bools_1 N 0 v = none := by kernel_rfl
theorem l_ref19_Bools_1_s (N m : Nat) (a : (List Bool)) (b : (List Bool)) (i : Int) : l_ref19_Bools_1 N (m + 1) (a, b, i) = cond (decide (i < (((List.length a) : Nat) : Int)))
   (obind (nthI a i) fun z1 =>
    obind (nthI b i) fun z2 =>
    cond (!(z1 == z2))
     (some (.inr false))
     ((l_ref19_Bools_1 N m (a, (b, (IntKind.wrap .i64 (i + (1 : Int))))))))
   (some (.inl ())) := by kernel_rfl
theorem m_ref19_Bools_eq (N : Nat) (a : (List Bool)) (b : (List Bool)) : m_ref19_Bools (N + 1) (a, b) = cond (!(decide ((((List.length a) : Nat) : Int) = (((List.length b) : Nat) : Int))))
   (some false)
   (obind (l_ref19_Bools_1 N N (a, (b, (0 : Int)))) fun z1 =>
    (match z1 with
    | .inl zy2 => some true
    | .inr zy3 => some zy3)) := by kernel_rfl
theorem c_ref19_Bools_ok (N : Nat) : (c_ref19_Bools N).ok Try.prog := exF_ok (T := T) (CT := ct_ref19_Bools) (N := N) (fun M => ⟨tOk, ctAll_nil, mixed⟩) Try.func19 (by kernel_rfl) (by kernel_rfl) p_ref19_Bools [.h (.sl .b), .h (.sl .b)] [] [(.sl .b), (.sl .b)] r_ref19_Bools false true [] (by kernel_rfl) (fun y => by kernel_rfl) (fun _ => ⟨rfl, rfl⟩) (fun y => by kernel_rfl) (m_ref19_Bools N) (fun x => by kernel_rfl)
/-! archipelago/archipelagoref11.Same -/
noncomputable def ct_ref11_Same (N : Nat) : List Ctr := []
def i_ref11_Same_1 : PS := ⟨[(0, .h (.sl (.pr (.i .i64) (.i .i64)))), (1, .h (.sl (.pr (.i .i64) (.i .i64)))), (5, .h (.i .i64))], [], [(.sl (.pr (.i .i64) (.i .i64))), (.sl (.pr (.i .i64) (.i .i64))), (.i .i64)]⟩
def o_ref11_Same_1 : List (Exit × PS) := [((.exit 0), ⟨[], [], []⟩), (.ret, ⟨[(4, .h .b)], [], [.b]⟩)]
def p_ref11_Same_1 : Pl := .z
noncomputable def l_ref11_Same_1 (N : Nat) : Nat → (List (Int × Int)) × (List (Int × Int)) × Int → Option ((Unit) ⊕ (Bool)) := loopF (exC T (ct_ref11_Same N) N (codeAt [1, 1, 0, 1, 0, 0] (bodyOf Try.f20))) 26 i_ref11_Same_1 o_ref11_Same_1 p_ref11_Same_1
def p_ref11_Same : Pl := (.n .z (.n .z (.n (.n .z (.n (.loop i_ref11_Same_1 o_ref11_Same_1 p_ref11_Same_1) .z)) .z)))
def r_ref11_Same : PS := ⟨[(4, .h .b)], [], [.b]⟩
noncomputable def m_ref11_Same (N : Nat) : (List (Int × Int)) × (List (Int × Int)) → Option (Bool) := exF T ct_ref11_Same N (bodyOf Try.f20) 26 p_ref11_Same [.h (.sl (.pr (.i .i64) (.i .i64))), .h (.sl (.pr (.i .i64) (.i .i64)))] [] [(.sl (.pr (.i .i64) (.i .i64))), (.sl (.pr (.i .i64) (.i .i64)))] r_ref11_Same
noncomputable def c_ref11_Same (N : Nat) : Ctr := ⟨20, [.h (.sl (.pr (.i .i64) (.i .i64))), .h (.sl (.pr (.i .i64) (.i .i64)))], [], [(.sl (.pr (.i .i64) (.i .i64))), (.sl (.pr (.i .i64) (.i .i64)))], Tup r_ref11_Same.c, m_ref11_Same N, fun y _ k => k (resG T (mkPS 26 r_ref11_Same y) Try.f20.results.toList) (keepH' [] (mkPS 26 r_ref11_Same y).h), false, true⟩
theorem l_ref11_Same_1_z (N : Nat) (v : (List (Int × Int)) × (List (Int × Int)) × Int) : l_ref11_Same_1 N 0 v = none := by kernel_rfl
theorem l_ref11_Same_1_s (N m : Nat) (a : (List (Int × Int))) (b : (List (Int × Int))) (i : Int) : l_ref11_Same_1 N (m + 1) (a, b, i) = cond (decide (i < (((List.length a) : Nat) : Int)))
   (obind (nthI a i) fun z1 =>
    obind (nthI b i) fun z2 =>
    cond (!((decide (z1.1 = z2.1)) && (decide (z1.2 = z2.2))))
     (some (.inr false))
     ((l_ref11_Same_1 N m (a, (b, (IntKind.wrap .i64 (i + (1 : Int))))))))
   (some (.inl ())) := by kernel_rfl
theorem m_ref11_Same_eq (N : Nat) (a : (List (Int × Int))) (b : (List (Int × Int))) : m_ref11_Same (N + 1) (a, b) = cond (!(decide ((((List.length a) : Nat) : Int) = (((List.length b) : Nat) : Int))))
   (some false)
   (obind (l_ref11_Same_1 N N (a, (b, (0 : Int)))) fun z1 =>
    (match z1 with
    | .inl zy2 => some true
    | .inr zy3 => some zy3)) := by kernel_rfl
theorem c_ref11_Same_ok (N : Nat) : (c_ref11_Same N).ok Try.prog := exF_ok (T := T) (CT := ct_ref11_Same) (N := N) (fun M => ⟨tOk, ctAll_nil, mixed⟩) Try.func20 (by kernel_rfl) (by kernel_rfl) p_ref11_Same [.h (.sl (.pr (.i .i64) (.i .i64))), .h (.sl (.pr (.i .i64) (.i .i64)))] [] [(.sl (.pr (.i .i64) (.i .i64))), (.sl (.pr (.i .i64) (.i .i64)))] r_ref11_Same false true [] (by kernel_rfl) (fun y => by kernel_rfl) (fun _ => ⟨rfl, rfl⟩) (fun y => by kernel_rfl) (m_ref11_Same N) (fun x => by kernel_rfl)
/-! archipelago/archipelagolaw20.alive -/
noncomputable def ct_law20_alive (N : Nat) : List Ctr := [c_ref19_Of N, c_span_Choose N, c_span_Contract N, c_span_Classes N, c_span_Spanning N, c_span_Count N, c_ref19_Bools N, c_ref11_Same N, c_ref01_Ints N]
def p_law20_alive : Pl := .z
def r_law20_alive : PS := ⟨[(0, .h .b)], [], [.b]⟩
noncomputable def m_law20_alive (N : Nat) : Unit → Option (Bool) := exF T ct_law20_alive N (bodyOf Try.f7) 124 p_law20_alive [] [] [] r_law20_alive
noncomputable def c_law20_alive (N : Nat) : Ctr := ⟨7, [], [], [], Tup r_law20_alive.c, m_law20_alive N, fun y _ k => k (resG T (mkPS 124 r_law20_alive y) Try.f7.results.toList) (keepH' [] (mkPS 124 r_law20_alive y).h), false, true⟩
theorem m_law20_alive_eq (N : Nat) : m_law20_alive (N + 1) () = obind (m_ref19_Of N ((5 : Int), [((1 : Int), (0 : Int))])) fun z1 =>
  obind (m_span_Choose N (z1.2.1, (z1.2.2, ([((2 : Int), (1 : Int)), ((1 : Int), (2 : Int)), ((1 : Int), (3 : Int)), ((0 : Int), (0 : Int))] ++ [((0 : Int), (2 : Int))])))) fun z2 =>
  obind (m_span_Contract N (z1.2.1, (z1.2.2, [((2 : Int), (1 : Int)), ((1 : Int), (2 : Int)), ((1 : Int), (3 : Int)), ((0 : Int), (0 : Int))]))) fun z3 =>
  obind (m_span_Classes N ((5 : Int), [((2 : Int), (1 : Int)), ((1 : Int), (2 : Int)), ((1 : Int), (3 : Int)), ((0 : Int), (0 : Int))])) fun z4 =>
  obind (m_span_Spanning N ((5 : Int), [((2 : Int), (1 : Int)), ((1 : Int), (2 : Int)), ((1 : Int), (3 : Int)), ((0 : Int), (0 : Int))])) fun z5 =>
  obind (m_span_Count N ((5 : Int), [((2 : Int), (1 : Int)), ((1 : Int), (2 : Int)), ((1 : Int), (3 : Int)), ((0 : Int), (0 : Int))])) fun z6 =>
  obind (m_span_Count N ((3 : Int), [((2 : Int), (1 : Int)), ((1 : Int), (2 : Int)), ((1 : Int), (3 : Int)), ((0 : Int), (0 : Int))])) fun z7 =>
  obind (m_span_Classes N ((0 : Int), [])) fun z8 =>
  cond (decide (z2.1 = (0 : Int)))
   (cond (decide (z3.1 = (0 : Int)))
     (cond (decide (z4.1 = (0 : Int)))
       (cond (decide (z5.1 = (0 : Int)))
         (cond (decide (z6.2 = (0 : Int)))
           (cond (decide (z7.2 = (10 : Int)))
             (cond (decide (z8.1 = (1 : Int)))
               (obind (m_ref19_Bools N (z2.2, [true, false, true, false, false])) fun z9 =>
                cond z9
                 (obind (m_ref11_Same N (z3.2, [((2 : Int), (0 : Int)), ((0 : Int), (2 : Int)), ((0 : Int), (3 : Int)), ((0 : Int), (0 : Int))])) fun z10 =>
                  cond z10
                   (obind (m_ref01_Ints N (z4.2, [(0 : Int), (1 : Int), (1 : Int), (1 : Int), (4 : Int)])) fun z11 =>
                    cond z11
                     (obind (m_ref11_Same N (z5.2, [((2 : Int), (1 : Int)), ((1 : Int), (3 : Int))])) fun z12 =>
                      cond z12
                       (some (decide (z6.1 = (3 : Int))))
                       (some false))
                     (some false))
                   (some false))
                 (some false))
               (some false))
             (some false))
           (some false))
         (some false))
       (some false))
     (some false))
   (some false) := by kernel_rfl
theorem c_law20_alive_ok (N : Nat) : (c_law20_alive N).ok Try.prog := exF_ok (T := T) (CT := ct_law20_alive) (N := N) (fun M => ⟨tOk, (ctAll_cons (c_ref19_Of_ok M) (ctAll_cons (c_span_Choose_ok M) (ctAll_cons (c_span_Contract_ok M) (ctAll_cons (c_span_Classes_ok M) (ctAll_cons (c_span_Spanning_ok M) (ctAll_cons (c_span_Count_ok M) (ctAll_cons (c_ref19_Bools_ok M) (ctAll_cons (c_ref11_Same_ok M) (ctAll_cons (c_ref01_Ints_ok M) ctAll_nil))))))))), mixed⟩) Try.func7 (by kernel_rfl) (by kernel_rfl) p_law20_alive [] [] [] r_law20_alive false true [] (by kernel_rfl) (fun y => by kernel_rfl) (fun _ => ⟨rfl, rfl⟩) (fun y => by kernel_rfl) (m_law20_alive N) (fun x => by kernel_rfl)
/-! archipelago/archipelagolaw20.SpanFew -/
noncomputable def ct_law20_SpanFew (N : Nat) : List Ctr := [c_law20_alive N, c_span_Spanning N, c_span_Classes N, c_span_Count N, c_ref01_Ints N]
def p_law20_SpanFew : Pl := .z
def r_law20_SpanFew : PS := ⟨[(6, .h .b)], [], [.b]⟩
noncomputable def m_law20_SpanFew (N : Nat) : Int × (List (Int × Int)) × Int → Option (Bool) := exF T ct_law20_SpanFew N (bodyOf Try.f4) 116 p_law20_SpanFew [.h (.i .u8), .h (.sl (.pr (.i .i64) (.i .i64))), .h (.i .u8)] [] [(.i .u8), (.sl (.pr (.i .i64) (.i .i64))), (.i .u8)] r_law20_SpanFew
noncomputable def c_law20_SpanFew (N : Nat) : Ctr := ⟨4, [.h (.i .u8), .h (.sl (.pr (.i .i64) (.i .i64))), .h (.i .u8)], [], [(.i .u8), (.sl (.pr (.i .i64) (.i .i64))), (.i .u8)], Tup r_law20_SpanFew.c, m_law20_SpanFew N, fun y _ k => k (resG T (mkPS 116 r_law20_SpanFew y) Try.f4.results.toList) (keepH' [] (mkPS 116 r_law20_SpanFew y).h), false, true⟩
theorem m_law20_SpanFew_eq (N : Nat) (n : Int) (l : (List (Int × Int))) (k : Int) : m_law20_SpanFew (N + 1) (n, l, k) = obind (m_law20_alive N ()) fun z1 =>
  cond (!z1)
   (some false)
   (cond (decide ((30 : Int) < (((List.length l) : Nat) : Int)))
     (some true)
     (obind (m_span_Spanning N ((IntKind.wrap .i64 ((1 : Int) + (Int.tmod (IntKind.wrap .i64 n) (12 : Int)))), l)) fun z2 =>
      cond (!(decide (z2.1 = (0 : Int))))
       (cond (decide (z2.1 = (10 : Int)))
         (some (decide ((((List.length z2.2) : Nat) : Int) = (0 : Int))))
         (some false))
       (obind (m_span_Classes N ((IntKind.wrap .i64 ((1 : Int) + (Int.tmod (IntKind.wrap .i64 n) (12 : Int)))), l)) fun z3 =>
        obind (m_span_Classes N ((IntKind.wrap .i64 ((1 : Int) + (Int.tmod (IntKind.wrap .i64 n) (12 : Int)))), z2.2)) fun z4 =>
        obind (m_span_Count N ((IntKind.wrap .i64 ((1 : Int) + (Int.tmod (IntKind.wrap .i64 n) (12 : Int)))), l)) fun z5 =>
        cond (!(decide (z3.1 = (0 : Int))))
         (some false)
         (cond (!(decide (z4.1 = (0 : Int))))
           (some false)
           (cond (!(decide (z5.2 = (0 : Int))))
             (some false)
             (obind (m_ref01_Ints N (z3.2, z4.2)) fun z6 =>
              cond (!z6)
               (some false)
               (cond (!(decide (z5.1 = (IntKind.wrap .i64 ((IntKind.wrap .i64 ((1 : Int) + (Int.tmod (IntKind.wrap .i64 n) (12 : Int)))) - (((List.length z2.2) : Nat) : Int))))))
                 (some false)
                 (cond (decide ((((List.length z2.2) : Nat) : Int) = (0 : Int)))
                   (some true)
                   (obind (remI (IntKind.wrap .i64 k) (((List.length z2.2) : Nat) : Int)) fun z7 =>
                    obind (subI z2.2 (0 : Int) z7) fun z8 =>
                    obind (appI (16 : Nat) [] z8) fun z9 =>
                    obind (subI z2.2 (IntKind.wrap .i64 (z7 + (1 : Int))) (((List.length z2.2) : Nat) : Int)) fun z10 =>
                    obind (appI (16 : Nat) z9 z10) fun z11 =>
                    obind (m_span_Count N ((IntKind.wrap .i64 ((1 : Int) + (Int.tmod (IntKind.wrap .i64 n) (12 : Int)))), z11)) fun z12 =>
                    cond (decide (z12.2 = (0 : Int)))
                     (some (decide (z12.1 = (IntKind.wrap .i64 (z5.1 + (1 : Int))))))
                     (some false)))))))))) := by kernel_rfl
theorem c_law20_SpanFew_ok (N : Nat) : (c_law20_SpanFew N).ok Try.prog := exF_ok (T := T) (CT := ct_law20_SpanFew) (N := N) (fun M => ⟨tOk, (ctAll_cons (c_law20_alive_ok M) (ctAll_cons (c_span_Spanning_ok M) (ctAll_cons (c_span_Classes_ok M) (ctAll_cons (c_span_Count_ok M) (ctAll_cons (c_ref01_Ints_ok M) ctAll_nil))))), mixed⟩) Try.func4 (by kernel_rfl) (by kernel_rfl) p_law20_SpanFew [.h (.i .u8), .h (.sl (.pr (.i .i64) (.i .i64))), .h (.i .u8)] [] [(.i .u8), (.sl (.pr (.i .i64) (.i .i64))), (.i .u8)] r_law20_SpanFew false true [] (by kernel_rfl) (fun y => by kernel_rfl) (fun _ => ⟨rfl, rfl⟩) (fun y => by kernel_rfl) (m_law20_SpanFew N) (fun x => by kernel_rfl)
/-! archipelago/archipelagolaw20.SpanMore -/
noncomputable def ct_law20_SpanMore (N : Nat) : List Ctr := [c_law20_alive N, c_span_Count N, c_span_Classes N, c_span_Spanning N]
def i_law20_SpanMore_1 : PS := ⟨[(5, .k (.pt 900 0)), (7, .h (.i .i64)), (8, .h (.i .i64)), (10, .h (.i .i64)), (12, .k (.ow 901)), (14, .k (.ow 902)), (16, .k (.ow 903)), (18, .h (.i .i64))], [(900, .box 49 [.h (.i .i64), .h (.i .i64)]), (901, .arr 3 (.i .i64) true), (902, .arr 49 (.pr (.i .i64) (.i .i64)) true), (903, .arr 49 (.pr (.i .i64) (.i .i64)) true)], [(.i .i64), (.i .i64), (.i .i64), (.i .i64), (.i .i64), (.i .i64), (.sl (.i .i64)), (.sl (.pr (.i .i64) (.i .i64))), (.sl (.pr (.i .i64) (.i .i64)))]⟩
def o_law20_SpanMore_1 : List (Exit × PS) := [(.normal, ⟨[(5, .k (.pt 900 0)), (7, .h (.i .i64)), (8, .h (.i .i64)), (10, .h (.i .i64)), (14, .k (.ow 901)), (16, .k (.ow 902)), (18, .h (.i .i64))], [(900, .box 49 [.h (.i .i64), .h (.i .i64)]), (901, .arr 49 (.pr (.i .i64) (.i .i64)) true), (902, .arr 49 (.pr (.i .i64) (.i .i64)) true)], [(.i .i64), (.i .i64), (.i .i64), (.i .i64), (.i .i64), (.i .i64), (.sl (.pr (.i .i64) (.i .i64))), (.sl (.pr (.i .i64) (.i .i64)))]⟩)]
def p_law20_SpanMore_1 : Pl := .z
noncomputable def l_law20_SpanMore_1 (N : Nat) : Nat → Int × Int × Int × Int × Int × Int × (List Int) × (List (Int × Int)) × (List (Int × Int)) → Option (Int × Int × Int × Int × Int × Int × (List (Int × Int)) × (List (Int × Int))) := joinF (exC0 T (ct_law20_SpanMore N) N (codeAt [1, 1, 1, 1, 1, 1, 1, 1, 1, 1, 1, 1, 0] (bodyOf Try.f6))) 162 i_law20_SpanMore_1 o_law20_SpanMore_1 p_law20_SpanMore_1
def p_law20_SpanMore : Pl := (.n .z (.n .z (.n .z (.n .z (.n .z (.n .z (.n .z (.n .z (.n .z (.n .z (.n .z (.n .z (.n (.join i_law20_SpanMore_1 o_law20_SpanMore_1 p_law20_SpanMore_1) .z)))))))))))))
def r_law20_SpanMore : PS := ⟨[(6, .h .b)], [], [.b]⟩
noncomputable def m_law20_SpanMore (N : Nat) : Int × (List (Int × Int)) × Int × Int → Option (Bool) := exF T ct_law20_SpanMore N (bodyOf Try.f6) 162 p_law20_SpanMore [.h (.i .u8), .h (.sl (.pr (.i .i64) (.i .i64))), .ag [.h (.i .i64), .h (.i .i64)]] [] [(.i .u8), (.sl (.pr (.i .i64) (.i .i64))), (.i .i64), (.i .i64)] r_law20_SpanMore
noncomputable def c_law20_SpanMore (N : Nat) : Ctr := ⟨6, [.h (.i .u8), .h (.sl (.pr (.i .i64) (.i .i64))), .ag [.h (.i .i64), .h (.i .i64)]], [], [(.i .u8), (.sl (.pr (.i .i64) (.i .i64))), (.i .i64), (.i .i64)], Tup r_law20_SpanMore.c, m_law20_SpanMore N, fun y _ k => k (resG T (mkPS 162 r_law20_SpanMore y) Try.f6.results.toList) (keepH' [] (mkPS 162 r_law20_SpanMore y).h), false, true⟩
theorem l_law20_SpanMore_1_s (N m : Nat) (size : Int) (a : Int) (b : Int) (joins : Int) (x : Int) (x2 : Int) (c : (List Int)) (s : (List (Int × Int))) (t : (List (Int × Int))) : l_law20_SpanMore_1 N (m + 1) (size, a, b, joins, x, x2, c, s, t) = obind (nthI c x) fun z1 =>
  obind (nthI c x) fun z2 =>
  obind (nthI c x2) fun z3 =>
  obind (nthI c x2) fun z4 =>
  cond (!(decide (z2 = z4)))
   (some (size, (a, (b, ((1 : Int), (x, (x2, (s, t))))))))
   (some (size, (a, (b, (joins, (x, (x2, (s, t)))))))) := by kernel_rfl
theorem m_law20_SpanMore_eq (N : Nat) (n : Int) (l : (List (Int × Int))) (x : Int) (x2 : Int) : m_law20_SpanMore (N + 1) (n, l, x, x2) = obind (m_law20_alive N ()) fun z1 =>
  cond (!z1)
   (some false)
   (cond (decide ((30 : Int) < (((List.length l) : Nat) : Int)))
     (some true)
     (obind (m_span_Count N ((IntKind.wrap .i64 ((1 : Int) + (Int.tmod (IntKind.wrap .i64 n) (12 : Int)))), l)) fun z2 =>
      obind (appI (16 : Nat) [] l) fun z3 =>
      obind (appI (16 : Nat) z3 [(x, x2)]) fun z4 =>
      obind (m_span_Count N ((IntKind.wrap .i64 ((1 : Int) + (Int.tmod (IntKind.wrap .i64 n) (12 : Int)))), z4)) fun z5 =>
      obind (m_span_Classes N ((IntKind.wrap .i64 ((1 : Int) + (Int.tmod (IntKind.wrap .i64 n) (12 : Int)))), l)) fun z6 =>
      obind (appI (16 : Nat) [] l) fun z7 =>
      obind (appI (16 : Nat) z7 [(x, x2)]) fun z8 =>
      obind (m_span_Spanning N ((IntKind.wrap .i64 ((1 : Int) + (Int.tmod (IntKind.wrap .i64 n) (12 : Int)))), z8)) fun z9 =>
      obind (appI (16 : Nat) [(x, x2)] l) fun z10 =>
      obind (m_span_Spanning N ((IntKind.wrap .i64 ((1 : Int) + (Int.tmod (IntKind.wrap .i64 n) (12 : Int)))), z10)) fun z11 =>
      cond (!(decide (z5.2 = (0 : Int))))
       (cond (decide (z5.2 = (10 : Int)))
         (cond (decide (z9.1 = z5.2))
           (cond (decide (z11.1 = z5.2))
             (cond (decide (z5.1 = (0 : Int)))
               (some (decide ((IntKind.wrap .i64 ((((List.length z9.2) : Nat) : Int) + (((List.length z11.2) : Nat) : Int))) = (0 : Int))))
               (some false))
             (some false))
           (some false))
         (some false))
       (cond (!(decide (z2.2 = (0 : Int))))
         (some false)
         (cond (!(decide (z6.1 = (0 : Int))))
           (some false)
           (cond (!(decide (z9.1 = (0 : Int))))
             (some false)
             (cond (!(decide (z11.1 = (0 : Int))))
               (some false)
               (cond (!(decide ((((List.length z6.2) : Nat) : Int) = (IntKind.wrap .i64 ((1 : Int) + (Int.tmod (IntKind.wrap .i64 n) (12 : Int)))))))
                 (some false)
                 (obind (l_law20_SpanMore_1 N N ((IntKind.wrap .i64 ((1 : Int) + (Int.tmod (IntKind.wrap .i64 n) (12 : Int)))), (z2.1, (z5.1, ((0 : Int), (x, (x2, (z6.2, (z9.2, z11.2))))))))) fun z12 =>
                  cond (decide (z12.2.2.1 = (IntKind.wrap .i64 (z12.2.1 - z12.2.2.2.1))))
                   (cond (decide ((((List.length z12.2.2.2.2.2.2.1) : Nat) : Int) = (IntKind.wrap .i64 (z12.1 - z12.2.2.1))))
                     (cond (decide ((((List.length z12.2.2.2.2.2.2.2) : Nat) : Int) = (((List.length z12.2.2.2.2.2.2.1) : Nat) : Int)))
                       (cond (decide (z12.2.2.2.1 = (0 : Int)))
                         (some true)
                         (obind (nthI z12.2.2.2.2.2.2.1 (IntKind.wrap .i64 ((((List.length z12.2.2.2.2.2.2.1) : Nat) : Int) - (1 : Int)))) fun z13 =>
                          obind (nthI z12.2.2.2.2.2.2.1 (IntKind.wrap .i64 ((((List.length z12.2.2.2.2.2.2.1) : Nat) : Int) - (1 : Int)))) fun z14 =>
                          some ((decide (z14.1 = z12.2.2.2.2.1)) && (decide (z14.2 = z12.2.2.2.2.2.1)))))
                       (some false))
                     (some false))
                   (some false))))))))) := by kernel_rfl
theorem c_law20_SpanMore_ok (N : Nat) : (c_law20_SpanMore N).ok Try.prog := exF_ok (T := T) (CT := ct_law20_SpanMore) (N := N) (fun M => ⟨tOk, (ctAll_cons (c_law20_alive_ok M) (ctAll_cons (c_span_Count_ok M) (ctAll_cons (c_span_Classes_ok M) (ctAll_cons (c_span_Spanning_ok M) ctAll_nil)))), mixed⟩) Try.func6 (by kernel_rfl) (by kernel_rfl) p_law20_SpanMore [.h (.i .u8), .h (.sl (.pr (.i .i64) (.i .i64))), .ag [.h (.i .i64), .h (.i .i64)]] [] [(.i .u8), (.sl (.pr (.i .i64) (.i .i64))), (.i .i64), (.i .i64)] r_law20_SpanMore false true [] (by kernel_rfl) (fun y => by kernel_rfl) (fun _ => ⟨rfl, rfl⟩) (fun y => by kernel_rfl) (m_law20_SpanMore N) (fun x => by kernel_rfl)
/-! archipelago/archipelagoref18.Great -/
noncomputable def ct_ref18_Great (N : Nat) : List Ctr := []
def i_ref18_Great_1 : PS := ⟨[(1, .h (.i .i64)), (2, .k (.pt 900 0)), (5, .h (.i .i64)), (6, .h (.i .i64))], [(900, .box 24 [.h (.i .i64), .h (.sl (.sl (.i .i64)))])], [(.i .i64), (.i .i64), (.i .i64), (.i .i64), (.sl (.sl (.i .i64)))]⟩
def o_ref18_Great_1 : List (Exit × PS) := [((.exit 0), ⟨[(1, .h (.i .i64)), (5, .h (.i .i64))], [], [(.i .i64), (.i .i64)]⟩)]
def p_ref18_Great_1 : Pl := .z
noncomputable def l_ref18_Great_1 (N : Nat) : Nat → Int × Int × Int × Int × (List (List Int)) → Option (Int × Int) := loopF (exC T (ct_ref18_Great N) N (codeAt [1, 1, 0, 1, 0, 0] (bodyOf Try.f8))) 33 i_ref18_Great_1 o_ref18_Great_1 p_ref18_Great_1
def p_ref18_Great : Pl := (.n .z (.n .z (.n (.n .z (.n (.loop i_ref18_Great_1 o_ref18_Great_1 p_ref18_Great_1) .z)) .z)))
def r_ref18_Great : PS := ⟨[(4, .h .b)], [], [.b]⟩
noncomputable def m_ref18_Great (N : Nat) : Int × (List (List Int)) × Int → Option (Bool) := exF T ct_ref18_Great N (bodyOf Try.f8) 33 p_ref18_Great [.ag [.h (.i .i64), .h (.sl (.sl (.i .i64)))], .h (.i .i64)] [] [(.i .i64), (.sl (.sl (.i .i64))), (.i .i64)] r_ref18_Great
noncomputable def c_ref18_Great (N : Nat) : Ctr := ⟨8, [.ag [.h (.i .i64), .h (.sl (.sl (.i .i64)))], .h (.i .i64)], [], [(.i .i64), (.sl (.sl (.i .i64))), (.i .i64)], Tup r_ref18_Great.c, m_ref18_Great N, fun y _ k => k (resG T (mkPS 33 r_ref18_Great y) Try.f8.results.toList) (keepH' [] (mkPS 33 r_ref18_Great y).h), false, true⟩
theorem l_ref18_Great_1_z (N : Nat) (v : Int × Int × Int × Int × (List (List Int))) : l_ref18_Great_1 N 0 v = none := by kernel_rfl
theorem l_ref18_Great_1_s (N m : Nat) (most : Int) (n : Int) (i : Int) (f : Int) (f2 : (List (List Int))) : l_ref18_Great_1 N (m + 1) (most, n, i, f, f2) = cond (decide (i < (((List.length f2) : Nat) : Int)))
   (cond (decide (n ≤ most))
     (obind (nthI f2 i) fun z1 =>
      (l_ref18_Great_1 N m (most, ((IntKind.wrap .i64 (n + (((List.length z1) : Nat) : Int))), ((IntKind.wrap .i64 (i + (1 : Int))), (f, f2))))))
     (some (most, n)))
   (some (most, n)) := by kernel_rfl
theorem m_ref18_Great_eq (N : Nat) (f : Int) (f2 : (List (List Int))) (most : Int) : m_ref18_Great (N + 1) (f, f2, most) = obind (l_ref18_Great_1 N N (most, ((((List.length f2) : Nat) : Int), ((0 : Int), (f, f2))))) fun z1 =>
  some (decide (z1.1 < z1.2)) := by kernel_rfl
theorem c_ref18_Great_ok (N : Nat) : (c_ref18_Great N).ok Try.prog := exF_ok (T := T) (CT := ct_ref18_Great) (N := N) (fun M => ⟨tOk, ctAll_nil, mixed⟩) Try.func8 (by kernel_rfl) (by kernel_rfl) p_ref18_Great [.ag [.h (.i .i64), .h (.sl (.sl (.i .i64)))], .h (.i .i64)] [] [(.i .i64), (.sl (.sl (.i .i64))), (.i .i64)] r_ref18_Great false true [] (by kernel_rfl) (fun y => by kernel_rfl) (fun _ => ⟨rfl, rfl⟩) (fun y => by kernel_rfl) (m_ref18_Great N) (fun x => by kernel_rfl)
/-! archipelago/archipelagoref20.Choose -/
noncomputable def ct_ref20_Choose (N : Nat) : List Ctr := [c_ref19_Links N]
def p_ref20_Choose : Pl := .z
def r_ref20_Choose : PS := ⟨[(4, .k (.ow 900)), (5, .h (.i .i64))], [(900, .arr 4 .b true)], [(.i .i64), (.sl .b)]⟩
noncomputable def m_ref20_Choose (N : Nat) : Int × (List (List Int)) × (List (Int × Int)) → Option (Int × (List Bool)) := exF T ct_ref20_Choose N (bodyOf Try.f10) 18 p_ref20_Choose [.ag [.h (.i .i64), .h (.sl (.sl (.i .i64)))], .h (.sl (.pr (.i .i64) (.i .i64)))] [] [(.i .i64), (.sl (.sl (.i .i64))), (.sl (.pr (.i .i64) (.i .i64)))] r_ref20_Choose
noncomputable def c_ref20_Choose (N : Nat) : Ctr := ⟨10, [.ag [.h (.i .i64), .h (.sl (.sl (.i .i64)))], .h (.sl (.pr (.i .i64) (.i .i64)))], [], [(.i .i64), (.sl (.sl (.i .i64))), (.sl (.pr (.i .i64) (.i .i64)))], Tup r_ref20_Choose.c, m_ref20_Choose N, fun y _ k => k (resG T (mkPS 18 r_ref20_Choose y) Try.f10.results.toList) (keepH' [900] (mkPS 18 r_ref20_Choose y).h), true, true⟩
theorem m_ref20_Choose_eq (N : Nat) (f : Int) (f2 : (List (List Int))) (l : (List (Int × Int))) : m_ref20_Choose (N + 1) (f, f2, l) = obind (m_ref19_Links N (f, (f2, l))) fun z1 =>
  some (z1.1, z1.2.2.2) := by kernel_rfl
theorem c_ref20_Choose_ok (N : Nat) : (c_ref20_Choose N).ok Try.prog := exF_ok (T := T) (CT := ct_ref20_Choose) (N := N) (fun M => ⟨tOk, (ctAll_cons (c_ref19_Links_ok M) ctAll_nil), mixed⟩) Try.func10 (by kernel_rfl) (by kernel_rfl) p_ref20_Choose [.ag [.h (.i .i64), .h (.sl (.sl (.i .i64)))], .h (.sl (.pr (.i .i64) (.i .i64)))] [] [(.i .i64), (.sl (.sl (.i .i64))), (.sl (.pr (.i .i64) (.i .i64)))] r_ref20_Choose true true [900] (by kernel_rfl) (fun y => by kernel_rfl) (fun h => by cases h) (fun y => by kernel_rfl) (m_ref20_Choose N) (fun x => by kernel_rfl)
/-! archipelago/archipelagoref18.Of -/
noncomputable def ct_ref18_Of (N : Nat) : List Ctr := [c_ref18_Right N, c_ref18_in N, c_ref18_place N]
def p_ref18_Of : Pl := .z
def r_ref18_Of : PS := ⟨[(4, .h (.i .i64))], [], [(.i .i64)]⟩
noncomputable def m_ref18_Of (N : Nat) : Int × (List (List Int)) × Int → Option (Int) := exF T ct_ref18_Of N (bodyOf Try.f60) 18 p_ref18_Of [.ag [.h (.i .i64), .h (.sl (.sl (.i .i64)))], .h (.i .i64)] [] [(.i .i64), (.sl (.sl (.i .i64))), (.i .i64)] r_ref18_Of
noncomputable def c_ref18_Of (N : Nat) : Ctr := ⟨60, [.ag [.h (.i .i64), .h (.sl (.sl (.i .i64)))], .h (.i .i64)], [], [(.i .i64), (.sl (.sl (.i .i64))), (.i .i64)], Tup r_ref18_Of.c, m_ref18_Of N, fun y _ k => k (resG T (mkPS 18 r_ref18_Of y) Try.f60.results.toList) (keepH' [] (mkPS 18 r_ref18_Of y).h), false, true⟩
theorem m_ref18_Of_eq (N : Nat) (f : Int) (f2 : (List (List Int))) (v : Int) : m_ref18_Of (N + 1) (f, f2, v) = obind (m_ref18_Right N (f, f2)) fun z1 =>
  cond (!z1)
   (some (-(1 : Int)))
   (obind (m_ref18_in N (f, v)) fun z2 =>
    cond (!z2)
     (some (-(1 : Int)))
     (obind (m_ref18_place N (f, (f2, v))) fun z3 =>
      some z3)) := by kernel_rfl
theorem c_ref18_Of_ok (N : Nat) : (c_ref18_Of N).ok Try.prog := exF_ok (T := T) (CT := ct_ref18_Of) (N := N) (fun M => ⟨tOk, (ctAll_cons (c_ref18_Right_ok M) (ctAll_cons (c_ref18_in_ok M) (ctAll_cons (c_ref18_place_ok M) ctAll_nil))), mixed⟩) Try.func60 (by kernel_rfl) (by kernel_rfl) p_ref18_Of [.ag [.h (.i .i64), .h (.sl (.sl (.i .i64)))], .h (.i .i64)] [] [(.i .i64), (.sl (.sl (.i .i64))), (.i .i64)] r_ref18_Of false true [] (by kernel_rfl) (fun y => by kernel_rfl) (fun _ => ⟨rfl, rfl⟩) (fun y => by kernel_rfl) (m_ref18_Of N) (fun x => by kernel_rfl)
/-! archipelago/archipelagoref19.Members -/
noncomputable def ct_ref19_Members (N : Nat) : List Ctr := [c_ref19_there N, c_ref18_Of N, c_ref13_Place N]
def i_ref19_Members_1 : PS := ⟨[(2, .k (.pt 900 0)), (7, .h (.sl (.i .i64))), (8, .k (.ow 901)), (9, .h (.i .i64))], [(900, .box 24 [.h (.i .i64), .h (.sl (.sl (.i .i64)))]), (901, .arr 3 (.i .i64) true)], [(.sl (.i .i64)), (.i .i64), (.i .i64), (.sl (.sl (.i .i64))), (.sl (.i .i64))]⟩
def o_ref19_Members_1 : List (Exit × PS) := [((.exit 0), ⟨[(8, .k (.ow 900))], [(900, .arr 3 (.i .i64) true)], [(.sl (.i .i64))]⟩)]
def p_ref19_Members_1 : Pl := .z
noncomputable def l_ref19_Members_1 (N : Nat) : Nat → (List Int) × Int × Int × (List (List Int)) × (List Int) → Option ((List Int)) := loopF (exC T (ct_ref19_Members N) N (codeAt [1, 1, 1, 1, 1, 0, 1, 0, 0] (bodyOf Try.f44))) 41 i_ref19_Members_1 o_ref19_Members_1 p_ref19_Members_1
def p_ref19_Members : Pl := (.n .z (.n .z (.n .z (.n .z (.n .z (.n (.n .z (.n (.loop i_ref19_Members_1 o_ref19_Members_1 p_ref19_Members_1) .z)) .z))))))
def r_ref19_Members : PS := ⟨[(4, .k (.ow 900)), (5, .h (.i .i64))], [(900, .arr 3 (.i .i64) true)], [(.i .i64), (.sl (.i .i64))]⟩
noncomputable def m_ref19_Members (N : Nat) : Int × (List (List Int)) × Int → Option (Int × (List Int)) := exF T ct_ref19_Members N (bodyOf Try.f44) 41 p_ref19_Members [.ag [.h (.i .i64), .h (.sl (.sl (.i .i64)))], .h (.i .i64)] [] [(.i .i64), (.sl (.sl (.i .i64))), (.i .i64)] r_ref19_Members
noncomputable def c_ref19_Members (N : Nat) : Ctr := ⟨44, [.ag [.h (.i .i64), .h (.sl (.sl (.i .i64)))], .h (.i .i64)], [], [(.i .i64), (.sl (.sl (.i .i64))), (.i .i64)], Tup r_ref19_Members.c, m_ref19_Members N, fun y _ k => k (resG T (mkPS 41 r_ref19_Members y) Try.f44.results.toList) (keepH' [900] (mkPS 41 r_ref19_Members y).h), true, true⟩
theorem l_ref19_Members_1_z (N : Nat) (v : (List Int) × Int × Int × (List (List Int)) × (List Int)) : l_ref19_Members_1 N 0 v = none := by kernel_rfl
theorem l_ref19_Members_1_s (N m : Nat) (l : (List Int)) (u : Int) (f : Int) (f2 : (List (List Int))) (out : (List Int)) : l_ref19_Members_1 N (m + 1) (l, u, f, f2, out) = cond (decide (u < f))
   (obind (m_ref13_Place N (l, u)) fun z1 =>
    cond (decide ((0 : Int) ≤ z1))
     (obind (appI (8 : Nat) out [u]) fun z2 =>
      (l_ref19_Members_1 N m (l, ((IntKind.wrap .i64 (u + (1 : Int))), (f, (f2, z2))))))
     ((l_ref19_Members_1 N m (l, ((IntKind.wrap .i64 (u + (1 : Int))), (f, (f2, out)))))))
   (some out) := by kernel_rfl
theorem m_ref19_Members_eq (N : Nat) (f : Int) (f2 : (List (List Int))) (v : Int) : m_ref19_Members (N + 1) (f, f2, v) = obind (m_ref19_there N (f, (f2, [(v, v)]))) fun z1 =>
  cond (!(decide (z1 = (0 : Int))))
   (some (z1, []))
   (obind (m_ref18_Of N (f, (f2, v))) fun z2 =>
    obind (nthI f2 z2) fun z3 =>
    obind (l_ref19_Members_1 N N (z3, ((0 : Int), (f, (f2, []))))) fun z4 =>
    some ((0 : Int), z4)) := by kernel_rfl
theorem c_ref19_Members_ok (N : Nat) : (c_ref19_Members N).ok Try.prog := exF_ok (T := T) (CT := ct_ref19_Members) (N := N) (fun M => ⟨tOk, (ctAll_cons (c_ref19_there_ok M) (ctAll_cons (c_ref18_Of_ok M) (ctAll_cons (c_ref13_Place_ok M) ctAll_nil))), mixed⟩) Try.func44 (by kernel_rfl) (by kernel_rfl) p_ref19_Members [.ag [.h (.i .i64), .h (.sl (.sl (.i .i64)))], .h (.i .i64)] [] [(.i .i64), (.sl (.sl (.i .i64))), (.i .i64)] r_ref19_Members true true [900] (by kernel_rfl) (fun y => by kernel_rfl) (fun h => by cases h) (fun y => by kernel_rfl) (m_ref19_Members N) (fun x => by kernel_rfl)
/-! archipelago/archipelagoref19.Least -/
noncomputable def ct_ref19_Least (N : Nat) : List Ctr := [c_ref19_Members N]
def p_ref19_Least : Pl := .z
def r_ref19_Least : PS := ⟨[(4, .h (.i .i64)), (5, .h (.i .i64))], [], [(.i .i64), (.i .i64)]⟩
noncomputable def m_ref19_Least (N : Nat) : Int × (List (List Int)) × Int → Option (Int × Int) := exF T ct_ref19_Least N (bodyOf Try.f30) 20 p_ref19_Least [.ag [.h (.i .i64), .h (.sl (.sl (.i .i64)))], .h (.i .i64)] [] [(.i .i64), (.sl (.sl (.i .i64))), (.i .i64)] r_ref19_Least
noncomputable def c_ref19_Least (N : Nat) : Ctr := ⟨30, [.ag [.h (.i .i64), .h (.sl (.sl (.i .i64)))], .h (.i .i64)], [], [(.i .i64), (.sl (.sl (.i .i64))), (.i .i64)], Tup r_ref19_Least.c, m_ref19_Least N, fun y _ k => k (resG T (mkPS 20 r_ref19_Least y) Try.f30.results.toList) (keepH' [] (mkPS 20 r_ref19_Least y).h), false, true⟩
theorem m_ref19_Least_eq (N : Nat) (f : Int) (f2 : (List (List Int))) (v : Int) : m_ref19_Least (N + 1) (f, f2, v) = obind (m_ref19_Members N (f, (f2, v))) fun z1 =>
  cond (!(decide (z1.1 = (0 : Int))))
   (some ((0 : Int), z1.1))
   (obind (nthI z1.2 (0 : Int)) fun z2 =>
    obind (nthI z1.2 (0 : Int)) fun z3 =>
    some (z3, (0 : Int))) := by kernel_rfl
theorem c_ref19_Least_ok (N : Nat) : (c_ref19_Least N).ok Try.prog := exF_ok (T := T) (CT := ct_ref19_Least) (N := N) (fun M => ⟨tOk, (ctAll_cons (c_ref19_Members_ok M) ctAll_nil), mixed⟩) Try.func30 (by kernel_rfl) (by kernel_rfl) p_ref19_Least [.ag [.h (.i .i64), .h (.sl (.sl (.i .i64)))], .h (.i .i64)] [] [(.i .i64), (.sl (.sl (.i .i64))), (.i .i64)] r_ref19_Least false true [] (by kernel_rfl) (fun y => by kernel_rfl) (fun _ => ⟨rfl, rfl⟩) (fun y => by kernel_rfl) (m_ref19_Least N) (fun x => by kernel_rfl)
/-! archipelago/archipelagoref20.Contract -/
noncomputable def ct_ref20_Contract (N : Nat) : List Ctr := [c_ref19_Links N, c_ref19_Least N]
def i_ref20_Contract_1 : PS := ⟨[(1, .h (.sl (.pr (.i .i64) (.i .i64)))), (2, .k (.pt 900 0)), (9, .k (.ow 901)), (10, .h (.i .i64))], [(900, .box 24 [.h (.i .i64), .h (.sl (.sl (.i .i64)))]), (901, .arr 49 (.pr (.i .i64) (.i .i64)) true)], [(.sl (.pr (.i .i64) (.i .i64))), (.i .i64), (.i .i64), (.sl (.sl (.i .i64))), (.sl (.pr (.i .i64) (.i .i64)))]⟩
def o_ref20_Contract_1 : List (Exit × PS) := [((.exit 0), ⟨[(9, .k (.ow 900))], [(900, .arr 49 (.pr (.i .i64) (.i .i64)) true)], [(.sl (.pr (.i .i64) (.i .i64)))]⟩)]
def p_ref20_Contract_1 : Pl := .z
noncomputable def l_ref20_Contract_1 (N : Nat) : Nat → (List (Int × Int)) × Int × Int × (List (List Int)) × (List (Int × Int)) → Option ((List (Int × Int))) := loopF (exC T (ct_ref20_Contract N) N (codeAt [1, 1, 1, 1, 0, 1, 0, 0] (bodyOf Try.f12))) 58 i_ref20_Contract_1 o_ref20_Contract_1 p_ref20_Contract_1
def p_ref20_Contract : Pl := (.n .z (.n .z (.n .z (.n .z (.n (.n .z (.n (.loop i_ref20_Contract_1 o_ref20_Contract_1 p_ref20_Contract_1) .z)) .z)))))
def r_ref20_Contract : PS := ⟨[(4, .k (.ow 900)), (5, .h (.i .i64))], [(900, .arr 49 (.pr (.i .i64) (.i .i64)) true)], [(.i .i64), (.sl (.pr (.i .i64) (.i .i64)))]⟩
noncomputable def m_ref20_Contract (N : Nat) : Int × (List (List Int)) × (List (Int × Int)) → Option (Int × (List (Int × Int))) := exF T ct_ref20_Contract N (bodyOf Try.f12) 58 p_ref20_Contract [.ag [.h (.i .i64), .h (.sl (.sl (.i .i64)))], .h (.sl (.pr (.i .i64) (.i .i64)))] [] [(.i .i64), (.sl (.sl (.i .i64))), (.sl (.pr (.i .i64) (.i .i64)))] r_ref20_Contract
noncomputable def c_ref20_Contract (N : Nat) : Ctr := ⟨12, [.ag [.h (.i .i64), .h (.sl (.sl (.i .i64)))], .h (.sl (.pr (.i .i64) (.i .i64)))], [], [(.i .i64), (.sl (.sl (.i .i64))), (.sl (.pr (.i .i64) (.i .i64)))], Tup r_ref20_Contract.c, m_ref20_Contract N, fun y _ k => k (resG T (mkPS 58 r_ref20_Contract y) Try.f12.results.toList) (keepH' [900] (mkPS 58 r_ref20_Contract y).h), true, true⟩
theorem l_ref20_Contract_1_z (N : Nat) (v : (List (Int × Int)) × Int × Int × (List (List Int)) × (List (Int × Int))) : l_ref20_Contract_1 N 0 v = none := by kernel_rfl
theorem l_ref20_Contract_1_s (N m : Nat) (l : (List (Int × Int))) (i : Int) (f : Int) (f2 : (List (List Int))) (out : (List (Int × Int))) : l_ref20_Contract_1 N (m + 1) (l, i, f, f2, out) = cond (decide (i < (((List.length l) : Nat) : Int)))
   (obind (nthI l i) fun z1 =>
    obind (m_ref19_Least N (f, (f2, z1.1))) fun z2 =>
    obind (nthI l i) fun z3 =>
    obind (m_ref19_Least N (f, (f2, z3.2))) fun z4 =>
    obind (appI (16 : Nat) out [(z2.1, z4.1)]) fun z5 =>
    (l_ref20_Contract_1 N m (l, ((IntKind.wrap .i64 (i + (1 : Int))), (f, (f2, z5))))))
   (some out) := by kernel_rfl
theorem m_ref20_Contract_eq (N : Nat) (f : Int) (f2 : (List (List Int))) (l : (List (Int × Int))) : m_ref20_Contract (N + 1) (f, f2, l) = obind (m_ref19_Links N (f, (f2, l))) fun z1 =>
  cond (!(decide (z1.1 = (0 : Int))))
   (some (z1.1, []))
   (obind (l_ref20_Contract_1 N N (l, ((0 : Int), (f, (f2, []))))) fun z2 =>
    some ((0 : Int), z2)) := by kernel_rfl
theorem c_ref20_Contract_ok (N : Nat) : (c_ref20_Contract N).ok Try.prog := exF_ok (T := T) (CT := ct_ref20_Contract) (N := N) (fun M => ⟨tOk, (ctAll_cons (c_ref19_Links_ok M) (ctAll_cons (c_ref19_Least_ok M) ctAll_nil)), mixed⟩) Try.func12 (by kernel_rfl) (by kernel_rfl) p_ref20_Contract [.ag [.h (.i .i64), .h (.sl (.sl (.i .i64)))], .h (.sl (.pr (.i .i64) (.i .i64)))] [] [(.i .i64), (.sl (.sl (.i .i64))), (.sl (.pr (.i .i64) (.i .i64)))] r_ref20_Contract true true [900] (by kernel_rfl) (fun y => by kernel_rfl) (fun h => by cases h) (fun y => by kernel_rfl) (m_ref20_Contract N) (fun x => by kernel_rfl)
/-! archipelago/archipelagoref20.asked -/
noncomputable def ct_ref20_asked (N : Nat) : List Ctr := []
def i_ref20_asked_1 : PS := ⟨[(0, .h (.i .i64)), (1, .h (.sl (.pr (.i .i64) (.i .i64)))), (5, .h (.i .i64))], [], [(.i .i64), (.sl (.pr (.i .i64) (.i .i64))), (.i .i64)]⟩
def o_ref20_asked_1 : List (Exit × PS) := [((.exit 0), ⟨[], [], []⟩), (.ret, ⟨[(4, .h (.i .i64))], [], [(.i .i64)]⟩)]
def p_ref20_asked_1 : Pl := .z
noncomputable def l_ref20_asked_1 (N : Nat) : Nat → Int × (List (Int × Int)) × Int → Option ((Unit) ⊕ (Int)) := loopF (exC T (ct_ref20_asked N) N (codeAt [1, 1, 0, 1, 0, 0] (bodyOf Try.f32))) 50 i_ref20_asked_1 o_ref20_asked_1 p_ref20_asked_1
def p_ref20_asked : Pl := (.n .z (.n .z (.n (.n .z (.n (.loop i_ref20_asked_1 o_ref20_asked_1 p_ref20_asked_1) .z)) .z)))
def r_ref20_asked : PS := ⟨[(4, .h (.i .i64))], [], [(.i .i64)]⟩
noncomputable def m_ref20_asked (N : Nat) : Int × (List (Int × Int)) → Option (Int) := exF T ct_ref20_asked N (bodyOf Try.f32) 50 p_ref20_asked [.h (.i .i64), .h (.sl (.pr (.i .i64) (.i .i64)))] [] [(.i .i64), (.sl (.pr (.i .i64) (.i .i64)))] r_ref20_asked
noncomputable def c_ref20_asked (N : Nat) : Ctr := ⟨32, [.h (.i .i64), .h (.sl (.pr (.i .i64) (.i .i64)))], [], [(.i .i64), (.sl (.pr (.i .i64) (.i .i64)))], Tup r_ref20_asked.c, m_ref20_asked N, fun y _ k => k (resG T (mkPS 50 r_ref20_asked y) Try.f32.results.toList) (keepH' [] (mkPS 50 r_ref20_asked y).h), false, true⟩
theorem l_ref20_asked_1_z (N : Nat) (v : Int × (List (Int × Int)) × Int) : l_ref20_asked_1 N 0 v = none := by kernel_rfl
theorem l_ref20_asked_1_s (N m : Nat) (n : Int) (l : (List (Int × Int))) (i : Int) : l_ref20_asked_1 N (m + 1) (n, l, i) = cond (decide (i < (((List.length l) : Nat) : Int)))
   (obind (nthI l i) fun z1 =>
    cond (decide (z1.1 < (0 : Int)))
     (some (.inr (10 : Int)))
     (obind (nthI l i) fun z2 =>
      cond (decide (n ≤ z2.1))
       (some (.inr (10 : Int)))
       (obind (nthI l i) fun z3 =>
        cond (decide (z3.2 < (0 : Int)))
         (some (.inr (10 : Int)))
         (obind (nthI l i) fun z4 =>
          cond (decide (n ≤ z4.2))
           (some (.inr (10 : Int)))
           ((l_ref20_asked_1 N m (n, (l, (IntKind.wrap .i64 (i + (1 : Int)))))))))))
   (some (.inl ())) := by kernel_rfl
theorem m_ref20_asked_eq (N : Nat) (n : Int) (l : (List (Int × Int))) : m_ref20_asked (N + 1) (n, l) = cond (decide (n < (1 : Int)))
   (some (1 : Int))
   (cond (decide ((64 : Int) < n))
     (some (1 : Int))
     (obind (l_ref20_asked_1 N N (n, (l, (0 : Int)))) fun z1 =>
      (match z1 with
      | .inl zy2 => some (0 : Int)
      | .inr zy3 => some zy3))) := by kernel_rfl
theorem c_ref20_asked_ok (N : Nat) : (c_ref20_asked N).ok Try.prog := exF_ok (T := T) (CT := ct_ref20_asked) (N := N) (fun M => ⟨tOk, ctAll_nil, mixed⟩) Try.func32 (by kernel_rfl) (by kernel_rfl) p_ref20_asked [.h (.i .i64), .h (.sl (.pr (.i .i64) (.i .i64)))] [] [(.i .i64), (.sl (.pr (.i .i64) (.i .i64)))] r_ref20_asked false true [] (by kernel_rfl) (fun y => by kernel_rfl) (fun _ => ⟨rfl, rfl⟩) (fun y => by kernel_rfl) (m_ref20_asked N) (fun x => by kernel_rfl)
/-! archipelago/archipelagoref19.Classes -/
noncomputable def ct_ref19_Classes (N : Nat) : List Ctr := []
def i_ref19_Classes_3 : PS := ⟨[(0, .h (.i .i64)), (1, .h (.sl (.pr (.i .i64) (.i .i64)))), (5, .k (.ow 900)), (7, .h .b), (8, .h (.i .i64))], [(900, .arr 3 (.i .i64) true)], [(.i .i64), (.sl (.pr (.i .i64) (.i .i64))), .b, (.i .i64), (.sl (.i .i64))]⟩
def o_ref19_Classes_3 : List (Exit × PS) := [((.exit 4), ⟨[(0, .h (.i .i64)), (1, .h (.sl (.pr (.i .i64) (.i .i64)))), (5, .k (.ow 900)), (7, .h .b)], [(900, .arr 3 (.i .i64) true)], [(.i .i64), (.sl (.pr (.i .i64) (.i .i64))), .b, (.sl (.i .i64))]⟩)]
def p_ref19_Classes_3 : Pl := .z
noncomputable def l_ref19_Classes_3 (N : Nat) : Nat → Int × (List (Int × Int)) × Bool × Int × (List Int) → Option (Int × (List (Int × Int)) × Bool × (List Int)) := loopF (exC T (ct_ref19_Classes N) N (codeAt [1, 1, 1, 0, 1, 0, 0, 1, 0, 1, 1, 0, 0] (bodyOf Try.f33))) 83 i_ref19_Classes_3 o_ref19_Classes_3 p_ref19_Classes_3
def i_ref19_Classes_2 : PS := ⟨[(0, .h (.i .i64)), (1, .h (.sl (.pr (.i .i64) (.i .i64)))), (5, .k (.ow 900)), (7, .h .b)], [(900, .arr 3 (.i .i64) true)], [(.i .i64), (.sl (.pr (.i .i64) (.i .i64))), .b, (.sl (.i .i64))]⟩
def o_ref19_Classes_2 : List (Exit × PS) := [((.exit 2), ⟨[(5, .k (.ow 900))], [(900, .arr 3 (.i .i64) true)], [(.sl (.i .i64))]⟩)]
def p_ref19_Classes_2 : Pl := (.n .z (.n (.n .z (.n .z (.n (.loop i_ref19_Classes_3 o_ref19_Classes_3 p_ref19_Classes_3) .z))) .z))
noncomputable def l_ref19_Classes_2 (N : Nat) : Nat → Int × (List (Int × Int)) × Bool × (List Int) → Option ((List Int)) := loopF (exC T (ct_ref19_Classes N) N (codeAt [1, 1, 1, 0, 1, 0, 0] (bodyOf Try.f33))) 83 i_ref19_Classes_2 o_ref19_Classes_2 p_ref19_Classes_2
def i_ref19_Classes_1 : PS := ⟨[(0, .h (.i .i64)), (1, .h (.sl (.pr (.i .i64) (.i .i64)))), (5, .k (.ow 900)), (6, .h (.i .i64))], [(900, .arr 3 (.i .i64) true)], [(.i .i64), (.sl (.pr (.i .i64) (.i .i64))), (.i .i64), (.sl (.i .i64))]⟩
def o_ref19_Classes_1 : List (Exit × PS) := [((.exit 0), ⟨[(0, .h (.i .i64)), (1, .h (.sl (.pr (.i .i64) (.i .i64)))), (5, .k (.ow 900))], [(900, .arr 3 (.i .i64) true)], [(.i .i64), (.sl (.pr (.i .i64) (.i .i64))), (.sl (.i .i64))]⟩)]
def p_ref19_Classes_1 : Pl := .z
noncomputable def l_ref19_Classes_1 (N : Nat) : Nat → Int × (List (Int × Int)) × Int × (List Int) → Option (Int × (List (Int × Int)) × (List Int)) := loopF (exC T (ct_ref19_Classes N) N (codeAt [1, 1, 0, 1, 0, 0] (bodyOf Try.f33))) 83 i_ref19_Classes_1 o_ref19_Classes_1 p_ref19_Classes_1
def p_ref19_Classes : Pl := (.n .z (.n .z (.n (.n .z (.n (.loop i_ref19_Classes_1 o_ref19_Classes_1 p_ref19_Classes_1) .z)) (.n (.n .z (.n (.loop i_ref19_Classes_2 o_ref19_Classes_2 p_ref19_Classes_2) .z)) .z))))
def r_ref19_Classes : PS := ⟨[(4, .k (.ow 900))], [(900, .arr 3 (.i .i64) true)], [(.sl (.i .i64))]⟩
noncomputable def m_ref19_Classes (N : Nat) : Int × (List (Int × Int)) → Option ((List Int)) := exF T ct_ref19_Classes N (bodyOf Try.f33) 83 p_ref19_Classes [.h (.i .i64), .h (.sl (.pr (.i .i64) (.i .i64)))] [] [(.i .i64), (.sl (.pr (.i .i64) (.i .i64)))] r_ref19_Classes
noncomputable def c_ref19_Classes (N : Nat) : Ctr := ⟨33, [.h (.i .i64), .h (.sl (.pr (.i .i64) (.i .i64)))], [], [(.i .i64), (.sl (.pr (.i .i64) (.i .i64)))], Tup r_ref19_Classes.c, m_ref19_Classes N, fun y _ k => k (resG T (mkPS 83 r_ref19_Classes y) Try.f33.results.toList) (keepH' [900] (mkPS 83 r_ref19_Classes y).h), true, true⟩
theorem l_ref19_Classes_3_z (N : Nat) (v : Int × (List (Int × Int)) × Bool × Int × (List Int)) : l_ref19_Classes_3 N 0 v = none := by kernel_rfl
theorem l_ref19_Classes_3_s (N m : Nat) (n : Int) (l : (List (Int × Int))) (more : Bool) (i : Int) (out : (List Int)) : l_ref19_Classes_3 N (m + 1) (n, l, more, i, out) = cond (decide (i < (((List.length l) : Nat) : Int)))
   (obind (nthI l i) fun z1 =>
    obind (nthI l i) fun z2 =>
    cond (decide (z1.1 < (0 : Int)))
     ((l_ref19_Classes_3 N m (n, (l, (more, ((IntKind.wrap .i64 (i + (1 : Int))), out))))))
     (cond (decide (z2.2 < (0 : Int)))
       ((l_ref19_Classes_3 N m (n, (l, (more, ((IntKind.wrap .i64 (i + (1 : Int))), out))))))
       (cond (decide (n ≤ z1.1))
         ((l_ref19_Classes_3 N m (n, (l, (more, ((IntKind.wrap .i64 (i + (1 : Int))), out))))))
         (cond (decide (n ≤ z2.2))
           ((l_ref19_Classes_3 N m (n, (l, (more, ((IntKind.wrap .i64 (i + (1 : Int))), out))))))
           (obind (nthI out z1.1) fun z3 =>
            obind (nthI out z1.1) fun z4 =>
            obind (nthI out z2.2) fun z5 =>
            obind (nthI out z2.2) fun z6 =>
            cond (decide (z4 = z6))
             ((l_ref19_Classes_3 N m (n, (l, (more, ((IntKind.wrap .i64 (i + (1 : Int))), out))))))
             (obind (nthI out z1.1) fun z7 =>
              obind (nthI out z1.1) fun z8 =>
              obind (nthI out z2.2) fun z9 =>
              obind (nthI out z2.2) fun z10 =>
              obind (nthI out z1.1) fun z11 =>
              obind (nthI out z1.1) fun z12 =>
              obind (nthI (List.set out (Int.toNat z1.1) (if (z10 < z8) then z10 else z8)) z2.2) fun z13 =>
              obind (nthI (List.set out (Int.toNat z1.1) (if (z10 < z8) then z10 else z8)) z2.2) fun z14 =>
              (l_ref19_Classes_3 N m (n, (l, (true, ((IntKind.wrap .i64 (i + (1 : Int))), (List.set (List.set out (Int.toNat z1.1) (if (z10 < z8) then z10 else z8)) (Int.toNat z2.2) (if (z10 < z8) then z10 else z8)))))))))))))
   (some (n, (l, (more, out)))) := by kernel_rfl
theorem l_ref19_Classes_2_z (N : Nat) (v : Int × (List (Int × Int)) × Bool × (List Int)) : l_ref19_Classes_2 N 0 v = none := by kernel_rfl
theorem l_ref19_Classes_2_s (N m : Nat) (n : Int) (l : (List (Int × Int))) (more : Bool) (out : (List Int)) : l_ref19_Classes_2 N (m + 1) (n, l, more, out) = cond more
   (obind (l_ref19_Classes_3 N N (n, (l, (false, ((0 : Int), out))))) fun z1 =>
    (l_ref19_Classes_2 N m (z1.1, (z1.2.1, (z1.2.2.1, z1.2.2.2)))))
   (some out) := by kernel_rfl
theorem l_ref19_Classes_1_z (N : Nat) (v : Int × (List (Int × Int)) × Int × (List Int)) : l_ref19_Classes_1 N 0 v = none := by kernel_rfl
theorem l_ref19_Classes_1_s (N m : Nat) (n : Int) (l : (List (Int × Int))) (v : Int) (out : (List Int)) : l_ref19_Classes_1 N (m + 1) (n, l, v, out) = cond (decide (v < n))
   (obind (appI (8 : Nat) out [v]) fun z1 =>
    (l_ref19_Classes_1 N m (n, (l, ((IntKind.wrap .i64 (v + (1 : Int))), z1)))))
   (some (n, (l, out))) := by kernel_rfl
theorem m_ref19_Classes_eq (N : Nat) (n : Int) (l : (List (Int × Int))) : m_ref19_Classes (N + 1) (n, l) = obind (l_ref19_Classes_1 N N (n, (l, ((0 : Int), [])))) fun z1 =>
  obind (l_ref19_Classes_2 N N (z1.1, (z1.2.1, (true, z1.2.2)))) fun z2 =>
  some z2 := by kernel_rfl
theorem c_ref19_Classes_ok (N : Nat) : (c_ref19_Classes N).ok Try.prog := exF_ok (T := T) (CT := ct_ref19_Classes) (N := N) (fun M => ⟨tOk, ctAll_nil, mixed⟩) Try.func33 (by kernel_rfl) (by kernel_rfl) p_ref19_Classes [.h (.i .i64), .h (.sl (.pr (.i .i64) (.i .i64)))] [] [(.i .i64), (.sl (.pr (.i .i64) (.i .i64)))] r_ref19_Classes true true [900] (by kernel_rfl) (fun y => by kernel_rfl) (fun h => by cases h) (fun y => by kernel_rfl) (m_ref19_Classes N) (fun x => by kernel_rfl)
/-! archipelago/archipelagoref20.Classes -/
noncomputable def ct_ref20_Classes (N : Nat) : List Ctr := [c_ref20_asked N, c_ref19_Classes N]
def p_ref20_Classes : Pl := .z
def r_ref20_Classes : PS := ⟨[(4, .k (.ow 900)), (5, .h (.i .i64))], [(900, .arr 3 (.i .i64) true)], [(.i .i64), (.sl (.i .i64))]⟩
noncomputable def m_ref20_Classes (N : Nat) : Int × (List (Int × Int)) → Option (Int × (List Int)) := exF T ct_ref20_Classes N (bodyOf Try.f14) 16 p_ref20_Classes [.h (.i .i64), .h (.sl (.pr (.i .i64) (.i .i64)))] [] [(.i .i64), (.sl (.pr (.i .i64) (.i .i64)))] r_ref20_Classes
noncomputable def c_ref20_Classes (N : Nat) : Ctr := ⟨14, [.h (.i .i64), .h (.sl (.pr (.i .i64) (.i .i64)))], [], [(.i .i64), (.sl (.pr (.i .i64) (.i .i64)))], Tup r_ref20_Classes.c, m_ref20_Classes N, fun y _ k => k (resG T (mkPS 16 r_ref20_Classes y) Try.f14.results.toList) (keepH' [900] (mkPS 16 r_ref20_Classes y).h), true, true⟩
theorem m_ref20_Classes_eq (N : Nat) (n : Int) (l : (List (Int × Int))) : m_ref20_Classes (N + 1) (n, l) = obind (m_ref20_asked N (n, l)) fun z1 =>
  cond (!(decide (z1 = (0 : Int))))
   (some (z1, []))
   (obind (m_ref19_Classes N (n, l)) fun z2 =>
    some ((0 : Int), z2)) := by kernel_rfl
theorem c_ref20_Classes_ok (N : Nat) : (c_ref20_Classes N).ok Try.prog := exF_ok (T := T) (CT := ct_ref20_Classes) (N := N) (fun M => ⟨tOk, (ctAll_cons (c_ref20_asked_ok M) (ctAll_cons (c_ref19_Classes_ok M) ctAll_nil)), mixed⟩) Try.func14 (by kernel_rfl) (by kernel_rfl) p_ref20_Classes [.h (.i .i64), .h (.sl (.pr (.i .i64) (.i .i64)))] [] [(.i .i64), (.sl (.pr (.i .i64) (.i .i64)))] r_ref20_Classes true true [900] (by kernel_rfl) (fun y => by kernel_rfl) (fun h => by cases h) (fun y => by kernel_rfl) (m_ref20_Classes N) (fun x => by kernel_rfl)
/-! archipelago/archipelagoref20.Spanning -/
noncomputable def ct_ref20_Spanning (N : Nat) : List Ctr := [c_ref18_Make N, c_ref20_Choose N]
def i_ref20_Spanning_1 : PS := ⟨[(1, .h (.sl (.pr (.i .i64) (.i .i64)))), (8, .k (.ow 900)), (9, .k (.ow 901)), (10, .h (.i .i64))], [(900, .arr 4 .b true), (901, .arr 49 (.pr (.i .i64) (.i .i64)) true)], [(.sl (.pr (.i .i64) (.i .i64))), (.i .i64), (.sl .b), (.sl (.pr (.i .i64) (.i .i64)))]⟩
def o_ref20_Spanning_1 : List (Exit × PS) := [((.exit 0), ⟨[(9, .k (.ow 900))], [(900, .arr 49 (.pr (.i .i64) (.i .i64)) true)], [(.sl (.pr (.i .i64) (.i .i64)))]⟩)]
def p_ref20_Spanning_1 : Pl := .z
noncomputable def l_ref20_Spanning_1 (N : Nat) : Nat → (List (Int × Int)) × Int × (List Bool) × (List (Int × Int)) → Option ((List (Int × Int))) := loopF (exC T (ct_ref20_Spanning N) N (codeAt [1, 1, 1, 1, 1, 1, 0, 1, 0, 0] (bodyOf Try.f16))) 46 i_ref20_Spanning_1 o_ref20_Spanning_1 p_ref20_Spanning_1
def p_ref20_Spanning : Pl := (.n .z (.n .z (.n .z (.n .z (.n .z (.n .z (.n (.n .z (.n (.loop i_ref20_Spanning_1 o_ref20_Spanning_1 p_ref20_Spanning_1) .z)) .z)))))))
def r_ref20_Spanning : PS := ⟨[(4, .k (.ow 900)), (5, .h (.i .i64))], [(900, .arr 49 (.pr (.i .i64) (.i .i64)) true)], [(.i .i64), (.sl (.pr (.i .i64) (.i .i64)))]⟩
noncomputable def m_ref20_Spanning (N : Nat) : Int × (List (Int × Int)) → Option (Int × (List (Int × Int))) := exF T ct_ref20_Spanning N (bodyOf Try.f16) 46 p_ref20_Spanning [.h (.i .i64), .h (.sl (.pr (.i .i64) (.i .i64)))] [] [(.i .i64), (.sl (.pr (.i .i64) (.i .i64)))] r_ref20_Spanning
noncomputable def c_ref20_Spanning (N : Nat) : Ctr := ⟨16, [.h (.i .i64), .h (.sl (.pr (.i .i64) (.i .i64)))], [], [(.i .i64), (.sl (.pr (.i .i64) (.i .i64)))], Tup r_ref20_Spanning.c, m_ref20_Spanning N, fun y _ k => k (resG T (mkPS 46 r_ref20_Spanning y) Try.f16.results.toList) (keepH' [900] (mkPS 46 r_ref20_Spanning y).h), true, true⟩
theorem l_ref20_Spanning_1_z (N : Nat) (v : (List (Int × Int)) × Int × (List Bool) × (List (Int × Int))) : l_ref20_Spanning_1 N 0 v = none := by kernel_rfl
theorem l_ref20_Spanning_1_s (N m : Nat) (l : (List (Int × Int))) (i : Int) (b : (List Bool)) (out : (List (Int × Int))) : l_ref20_Spanning_1 N (m + 1) (l, i, b, out) = cond (decide (i < (((List.length l) : Nat) : Int)))
   (obind (nthI b i) fun z1 =>
    obind (nthI b i) fun z2 =>
    cond z2
     (obind (nthI l i) fun z3 =>
      obind (appI (16 : Nat) out [(z3.1, z3.2)]) fun z4 =>
      (l_ref20_Spanning_1 N m (l, ((IntKind.wrap .i64 (i + (1 : Int))), (b, z4)))))
     ((l_ref20_Spanning_1 N m (l, ((IntKind.wrap .i64 (i + (1 : Int))), (b, out))))))
   (some out) := by kernel_rfl
theorem m_ref20_Spanning_eq (N : Nat) (n : Int) (l : (List (Int × Int))) : m_ref20_Spanning (N + 1) (n, l) = obind (m_ref18_Make N n) fun z1 =>
  cond (!(decide (z1.1 = (0 : Int))))
   (some (z1.1, []))
   (obind (m_ref20_Choose N (z1.2.1, (z1.2.2, l))) fun z2 =>
    cond (!(decide (z2.1 = (0 : Int))))
     (some (z2.1, []))
     (obind (l_ref20_Spanning_1 N N (l, ((0 : Int), (z2.2, [])))) fun z3 =>
      some ((0 : Int), z3))) := by kernel_rfl
theorem c_ref20_Spanning_ok (N : Nat) : (c_ref20_Spanning N).ok Try.prog := exF_ok (T := T) (CT := ct_ref20_Spanning) (N := N) (fun M => ⟨tOk, (ctAll_cons (c_ref18_Make_ok M) (ctAll_cons (c_ref20_Choose_ok M) ctAll_nil)), mixed⟩) Try.func16 (by kernel_rfl) (by kernel_rfl) p_ref20_Spanning [.h (.i .i64), .h (.sl (.pr (.i .i64) (.i .i64)))] [] [(.i .i64), (.sl (.pr (.i .i64) (.i .i64)))] r_ref20_Spanning true true [900] (by kernel_rfl) (fun y => by kernel_rfl) (fun h => by cases h) (fun y => by kernel_rfl) (m_ref20_Spanning N) (fun x => by kernel_rfl)
/-! archipelago/archipelagoref20.Count -/
noncomputable def ct_ref20_Count (N : Nat) : List Ctr := [c_ref20_Classes N]
def i_ref20_Count_1 : PS := ⟨[(6, .k (.ow 900)), (7, .h (.i .i64)), (8, .h (.i .i64)), (9, .h (.i .i64))], [(900, .arr 3 (.i .i64) true)], [(.i .i64), (.i .i64), (.i .i64), (.sl (.i .i64))]⟩
def o_ref20_Count_1 : List (Exit × PS) := [((.exit 0), ⟨[(7, .h (.i .i64)), (8, .h (.i .i64))], [], [(.i .i64), (.i .i64)]⟩)]
def p_ref20_Count_1 : Pl := .z
noncomputable def l_ref20_Count_1 (N : Nat) : Nat → Int × Int × Int × (List Int) → Option (Int × Int) := loopF (exC T (ct_ref20_Count N) N (codeAt [1, 1, 1, 0, 1, 0, 0] (bodyOf Try.f18))) 32 i_ref20_Count_1 o_ref20_Count_1 p_ref20_Count_1
def p_ref20_Count : Pl := (.n .z (.n .z (.n .z (.n (.n .z (.n (.loop i_ref20_Count_1 o_ref20_Count_1 p_ref20_Count_1) .z)) .z))))
def r_ref20_Count : PS := ⟨[(4, .h (.i .i64)), (5, .h (.i .i64))], [], [(.i .i64), (.i .i64)]⟩
noncomputable def m_ref20_Count (N : Nat) : Int × (List (Int × Int)) → Option (Int × Int) := exF T ct_ref20_Count N (bodyOf Try.f18) 32 p_ref20_Count [.h (.i .i64), .h (.sl (.pr (.i .i64) (.i .i64)))] [] [(.i .i64), (.sl (.pr (.i .i64) (.i .i64)))] r_ref20_Count
noncomputable def c_ref20_Count (N : Nat) : Ctr := ⟨18, [.h (.i .i64), .h (.sl (.pr (.i .i64) (.i .i64)))], [], [(.i .i64), (.sl (.pr (.i .i64) (.i .i64)))], Tup r_ref20_Count.c, m_ref20_Count N, fun y _ k => k (resG T (mkPS 32 r_ref20_Count y) Try.f18.results.toList) (keepH' [] (mkPS 32 r_ref20_Count y).h), false, true⟩
theorem l_ref20_Count_1_z (N : Nat) (v : Int × Int × Int × (List Int)) : l_ref20_Count_1 N 0 v = none := by kernel_rfl
theorem l_ref20_Count_1_s (N m : Nat) (e : Int) (k : Int) (v : Int) (c : (List Int)) : l_ref20_Count_1 N (m + 1) (e, k, v, c) = cond (decide (v < (((List.length c) : Nat) : Int)))
   (obind (nthI c v) fun z1 =>
    obind (nthI c v) fun z2 =>
    cond (decide (z2 = v))
     ((l_ref20_Count_1 N m (e, ((IntKind.wrap .i64 (k + (1 : Int))), ((IntKind.wrap .i64 (v + (1 : Int))), c)))))
     ((l_ref20_Count_1 N m (e, (k, ((IntKind.wrap .i64 (v + (1 : Int))), c))))))
   (some (e, k)) := by kernel_rfl
theorem m_ref20_Count_eq (N : Nat) (n : Int) (l : (List (Int × Int))) : m_ref20_Count (N + 1) (n, l) = obind (m_ref20_Classes N (n, l)) fun z1 =>
  obind (l_ref20_Count_1 N N (z1.1, ((0 : Int), ((0 : Int), z1.2)))) fun z2 =>
  some (z2.2, z2.1) := by kernel_rfl
theorem c_ref20_Count_ok (N : Nat) : (c_ref20_Count N).ok Try.prog := exF_ok (T := T) (CT := ct_ref20_Count) (N := N) (fun M => ⟨tOk, (ctAll_cons (c_ref20_Classes_ok M) ctAll_nil), mixed⟩) Try.func18 (by kernel_rfl) (by kernel_rfl) p_ref20_Count [.h (.i .i64), .h (.sl (.pr (.i .i64) (.i .i64)))] [] [(.i .i64), (.sl (.pr (.i .i64) (.i .i64)))] r_ref20_Count false true [] (by kernel_rfl) (fun y => by kernel_rfl) (fun _ => ⟨rfl, rfl⟩) (fun y => by kernel_rfl) (m_ref20_Count N) (fun x => by kernel_rfl)
/-! archipelago/archipelagolaw20.SpanAnswers -/
noncomputable def ct_law20_SpanAnswers (N : Nat) : List Ctr := [c_law20_alive N, c_ref18_Great N, c_span_Choose N, c_ref20_Choose N, c_span_Contract N, c_ref20_Contract N, c_span_Classes N, c_ref20_Classes N, c_span_Spanning N, c_ref20_Spanning N, c_span_Count N, c_ref20_Count N, c_ref19_Bools N, c_ref11_Same N, c_ref01_Ints N]
def p_law20_SpanAnswers : Pl := .z
def r_law20_SpanAnswers : PS := ⟨[(6, .h .b)], [], [.b]⟩
noncomputable def m_law20_SpanAnswers (N : Nat) : Int × (List (List Int)) × (List (Int × Int)) × Int → Option (Bool) := exF T ct_law20_SpanAnswers N (bodyOf Try.f3) 144 p_law20_SpanAnswers [.ag [.h (.i .i64), .h (.sl (.sl (.i .i64)))], .h (.sl (.pr (.i .i64) (.i .i64))), .h (.i .i64)] [] [(.i .i64), (.sl (.sl (.i .i64))), (.sl (.pr (.i .i64) (.i .i64))), (.i .i64)] r_law20_SpanAnswers
noncomputable def c_law20_SpanAnswers (N : Nat) : Ctr := ⟨3, [.ag [.h (.i .i64), .h (.sl (.sl (.i .i64)))], .h (.sl (.pr (.i .i64) (.i .i64))), .h (.i .i64)], [], [(.i .i64), (.sl (.sl (.i .i64))), (.sl (.pr (.i .i64) (.i .i64))), (.i .i64)], Tup r_law20_SpanAnswers.c, m_law20_SpanAnswers N, fun y _ k => k (resG T (mkPS 144 r_law20_SpanAnswers y) Try.f3.results.toList) (keepH' [] (mkPS 144 r_law20_SpanAnswers y).h), false, true⟩
theorem m_law20_SpanAnswers_eq (N : Nat) (f : Int) (f2 : (List (List Int))) (l : (List (Int × Int))) (n : Int) : m_law20_SpanAnswers (N + 1) (f, f2, l, n) = obind (m_law20_alive N ()) fun z1 =>
  cond (!z1)
   (some false)
   (obind (m_ref18_Great N (f, (f2, (80 : Int)))) fun z2 =>
    cond z2
     (some true)
     (cond (decide ((15 : Int) < (((List.length l) : Nat) : Int)))
       (some true)
       (obind (m_span_Choose N (f, (f2, l))) fun z3 =>
        obind (m_ref20_Choose N (f, (f2, l))) fun z4 =>
        obind (m_span_Contract N (f, (f2, l))) fun z5 =>
        obind (m_ref20_Contract N (f, (f2, l))) fun z6 =>
        obind (m_span_Classes N (n, l)) fun z7 =>
        obind (m_ref20_Classes N (n, l)) fun z8 =>
        obind (m_span_Spanning N (n, l)) fun z9 =>
        obind (m_ref20_Spanning N (n, l)) fun z10 =>
        obind (m_span_Count N (n, l)) fun z11 =>
        obind (m_ref20_Count N (n, l)) fun z12 =>
        obind (m_ref19_Bools N (z3.2, z4.2)) fun z13 =>
        cond z13
         (cond (decide (z3.1 = z4.1))
           (obind (m_ref11_Same N (z5.2, z6.2)) fun z14 =>
            cond z14
             (cond (decide (z5.1 = z6.1))
               (obind (m_ref01_Ints N (z7.2, z8.2)) fun z15 =>
                cond z15
                 (cond (decide (z7.1 = z8.1))
                   (obind (m_ref11_Same N (z9.2, z10.2)) fun z16 =>
                    cond z16
                     (cond (decide (z9.1 = z10.1))
                       (cond (decide (z11.1 = z12.1))
                         (some (decide (z11.2 = z12.2)))
                         (some false))
                       (some false))
                     (some false))
                   (some false))
                 (some false))
               (some false))
             (some false))
           (some false))
         (some false)))) := by kernel_rfl
theorem c_law20_SpanAnswers_ok (N : Nat) : (c_law20_SpanAnswers N).ok Try.prog := exF_ok (T := T) (CT := ct_law20_SpanAnswers) (N := N) (fun M => ⟨tOk, (ctAll_cons (c_law20_alive_ok M) (ctAll_cons (c_ref18_Great_ok M) (ctAll_cons (c_span_Choose_ok M) (ctAll_cons (c_ref20_Choose_ok M) (ctAll_cons (c_span_Contract_ok M) (ctAll_cons (c_ref20_Contract_ok M) (ctAll_cons (c_span_Classes_ok M) (ctAll_cons (c_ref20_Classes_ok M) (ctAll_cons (c_span_Spanning_ok M) (ctAll_cons (c_ref20_Spanning_ok M) (ctAll_cons (c_span_Count_ok M) (ctAll_cons (c_ref20_Count_ok M) (ctAll_cons (c_ref19_Bools_ok M) (ctAll_cons (c_ref11_Same_ok M) (ctAll_cons (c_ref01_Ints_ok M) ctAll_nil))))))))))))))), mixed⟩) Try.func3 (by kernel_rfl) (by kernel_rfl) p_law20_SpanAnswers [.ag [.h (.i .i64), .h (.sl (.sl (.i .i64)))], .h (.sl (.pr (.i .i64) (.i .i64))), .h (.i .i64)] [] [(.i .i64), (.sl (.sl (.i .i64))), (.sl (.pr (.i .i64) (.i .i64))), (.i .i64)] r_law20_SpanAnswers false true [] (by kernel_rfl) (fun y => by kernel_rfl) (fun _ => ⟨rfl, rfl⟩) (fun y => by kernel_rfl) (m_law20_SpanAnswers N) (fun x => by kernel_rfl)
/-! archipelago/archipelagolaw20.SpanContracts -/
noncomputable def ct_law20_SpanContracts (N : Nat) : List Ctr := [c_law20_alive N, c_ref18_Great N, c_span_Contract N, c_span_Choose N, c_ref18_Make N, c_ref19_Bools N]
def p_law20_SpanContracts : Pl := .z
def r_law20_SpanContracts : PS := ⟨[(4, .h .b)], [], [.b]⟩
noncomputable def m_law20_SpanContracts (N : Nat) : Int × (List (List Int)) × (List (Int × Int)) → Option (Bool) := exF T ct_law20_SpanContracts N (bodyOf Try.f5) 83 p_law20_SpanContracts [.ag [.h (.i .i64), .h (.sl (.sl (.i .i64)))], .h (.sl (.pr (.i .i64) (.i .i64)))] [] [(.i .i64), (.sl (.sl (.i .i64))), (.sl (.pr (.i .i64) (.i .i64)))] r_law20_SpanContracts
noncomputable def c_law20_SpanContracts (N : Nat) : Ctr := ⟨5, [.ag [.h (.i .i64), .h (.sl (.sl (.i .i64)))], .h (.sl (.pr (.i .i64) (.i .i64)))], [], [(.i .i64), (.sl (.sl (.i .i64))), (.sl (.pr (.i .i64) (.i .i64)))], Tup r_law20_SpanContracts.c, m_law20_SpanContracts N, fun y _ k => k (resG T (mkPS 83 r_law20_SpanContracts y) Try.f5.results.toList) (keepH' [] (mkPS 83 r_law20_SpanContracts y).h), false, true⟩
theorem m_law20_SpanContracts_eq (N : Nat) (f : Int) (f2 : (List (List Int))) (l : (List (Int × Int))) : m_law20_SpanContracts (N + 1) (f, f2, l) = obind (m_law20_alive N ()) fun z1 =>
  cond (!z1)
   (some false)
   (obind (m_ref18_Great N (f, (f2, (80 : Int)))) fun z2 =>
    cond z2
     (some true)
     (cond (decide ((15 : Int) < (((List.length l) : Nat) : Int)))
       (some true)
       (obind (m_span_Contract N (f, (f2, l))) fun z3 =>
        obind (m_span_Choose N (f, (f2, l))) fun z4 =>
        cond (!(decide (z3.1 = (0 : Int))))
         (cond (decide (z3.1 = z4.1))
           (cond (decide ((((List.length z3.2) : Nat) : Int) = (0 : Int)))
             (some (decide ((((List.length z4.2) : Nat) : Int) = (0 : Int))))
             (some false))
           (some false))
         (cond (!(decide (z4.1 = (0 : Int))))
           (cond (decide (z3.1 = z4.1))
             (cond (decide ((((List.length z3.2) : Nat) : Int) = (0 : Int)))
               (some (decide ((((List.length z4.2) : Nat) : Int) = (0 : Int))))
               (some false))
             (some false))
           (obind (m_ref18_Make N f) fun z5 =>
            obind (m_span_Choose N (z5.2.1, (z5.2.2, z3.2))) fun z6 =>
            cond (decide (z5.1 = (0 : Int)))
             (cond (decide (z6.1 = (0 : Int)))
               (obind (m_ref19_Bools N (z4.2, z6.2)) fun z7 =>
                cond z7
                 (some (decide ((((List.length z3.2) : Nat) : Int) = (((List.length l) : Nat) : Int))))
                 (some false))
               (some false))
             (some false)))))) := by kernel_rfl
theorem c_law20_SpanContracts_ok (N : Nat) : (c_law20_SpanContracts N).ok Try.prog := exF_ok (T := T) (CT := ct_law20_SpanContracts) (N := N) (fun M => ⟨tOk, (ctAll_cons (c_law20_alive_ok M) (ctAll_cons (c_ref18_Great_ok M) (ctAll_cons (c_span_Contract_ok M) (ctAll_cons (c_span_Choose_ok M) (ctAll_cons (c_ref18_Make_ok M) (ctAll_cons (c_ref19_Bools_ok M) ctAll_nil)))))), mixed⟩) Try.func5 (by kernel_rfl) (by kernel_rfl) p_law20_SpanContracts [.ag [.h (.i .i64), .h (.sl (.sl (.i .i64)))], .h (.sl (.pr (.i .i64) (.i .i64)))] [] [(.i .i64), (.sl (.sl (.i .i64))), (.sl (.pr (.i .i64) (.i .i64)))] r_law20_SpanContracts false true [] (by kernel_rfl) (fun y => by kernel_rfl) (fun _ => ⟨rfl, rfl⟩) (fun y => by kernel_rfl) (m_law20_SpanContracts N) (fun x => by kernel_rfl)
end Go.Proofs.Ytmgjokihljeemaa
