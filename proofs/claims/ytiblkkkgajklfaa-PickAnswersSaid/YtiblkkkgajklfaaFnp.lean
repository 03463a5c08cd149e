/- The functions of this seat, reckoned: of each what it computes, as a tree, and its contract (printed by wip/tool/plan.sh). -/
import Derived.Test.YtiblkkkgajklfaaFns
set_option linter.unusedVariables false
set_option maxRecDepth 100000
namespace Go.Proofs.Ytiblkkkgajklfaa
open Go Go.RowKit
/-! archipelago/pick.Mark -/
noncomputable def ct_pick_Mark (N : Nat) : List Ctr := [c_sum_Build_o N]
def i_pick_Mark_1 : PS := ⟨[(2, .k (.pt 900 0)), (6, .k (.ow 901)), (12, .h (.sl .b)), (13, .h (.i .i64)), (14, .h (.i .i64))], [(900, .box 25 [.h (.sl (.i .i64)), .h (.sl (.i .i64)), .h (.sl (.sl (.i .i64)))]), (901, .arr 3 (.i .i64) true)], [(.sl .b), (.i .i64), (.i .i64), (.sl (.i .i64)), (.sl (.i .i64)), (.sl (.sl (.i .i64))), (.sl (.i .i64))]⟩
def o_pick_Mark_1 : List (Exit × PS) := [((.exit 0), ⟨[(2, .k (.pt 900 0)), (6, .k (.ow 901))], [(900, .box 25 [.h (.sl (.i .i64)), .h (.sl (.i .i64)), .h (.sl (.sl (.i .i64)))]), (901, .arr 3 (.i .i64) true)], [(.sl (.i .i64)), (.sl (.i .i64)), (.sl (.sl (.i .i64))), (.sl (.i .i64))]⟩)]
def p_pick_Mark_1 : Pl := .z
noncomputable def l_pick_Mark_1 (N : Nat) : Nat → (List Bool) × Int × Int × (List Int) × (List Int) × (List (List Int)) × (List Int) → Option ((List Int) × (List Int) × (List (List Int)) × (List Int)) := loopF (exC T (ct_pick_Mark N) N (codeAt [1, 1, 0, 1, 0, 0] (bodyOf Try.f37))) 29 i_pick_Mark_1 o_pick_Mark_1 p_pick_Mark_1
def p_pick_Mark : Pl := (.n .z (.n .z (.n (.n .z (.n (.loop i_pick_Mark_1 o_pick_Mark_1 p_pick_Mark_1) .z)) .z)))
def r_pick_Mark : PS := ⟨[(4, .k (.ow 900)), (5, .h (.i .i64))], [(900, .arr 22 (.sl (.i .i64)) true)], [(.i .i64), (.sl (.sl (.i .i64)))]⟩
noncomputable def m_pick_Mark (N : Nat) : (List Int) × (List Int) × (List (List Int)) × (List Bool) → Option (Int × (List (List Int))) := exF T ct_pick_Mark N (bodyOf Try.f37) 29 p_pick_Mark [.ag [.h (.sl (.i .i64)), .h (.sl (.i .i64)), .h (.sl (.sl (.i .i64)))], .h (.sl .b)] [] [(.sl (.i .i64)), (.sl (.i .i64)), (.sl (.sl (.i .i64))), (.sl .b)] r_pick_Mark
noncomputable def c_pick_Mark (N : Nat) : Ctr := ⟨37, [.ag [.h (.sl (.i .i64)), .h (.sl (.i .i64)), .h (.sl (.sl (.i .i64)))], .h (.sl .b)], [], [(.sl (.i .i64)), (.sl (.i .i64)), (.sl (.sl (.i .i64))), (.sl .b)], Tup r_pick_Mark.c, m_pick_Mark N, fun y _ k => k (resG T (mkPS 29 r_pick_Mark y) Try.f37.results.toList) (keepH' [900] (mkPS 29 r_pick_Mark y).h), true, false⟩
theorem l_pick_Mark_1_z (N : Nat) (v : (List Bool) × Int × Int × (List Int) × (List Int) × (List (List Int)) × (List Int)) : l_pick_Mark_1 N 0 v = none := by kernel_rfl
theorem l_pick_Mark_1_s (N m : Nat) (v12 : (List Bool)) (v13 : Int) (v14 : Int) (t : (List Int)) (t2 : (List Int)) (t3 : (List (List Int))) (weights : (List Int)) : l_pick_Mark_1 N (m + 1) (v12, v13, v14, t, t2, t3, weights) = cond (decide (v14 < v13))
   (obind (nthI v12 v14) fun z1 =>
    cond z1
     (obind (nthI weights v14) fun z2 =>
      obind (nthI weights v14) fun z3 =>
      (l_pick_Mark_1 N m (v12, (v13, ((IntKind.wrap .i64 (v14 + (1 : Int))), (t, (t2, (t3, (List.set weights (Int.toNat v14) (1 : Int))))))))))
     ((l_pick_Mark_1 N m (v12, (v13, ((IntKind.wrap .i64 (v14 + (1 : Int))), (t, (t2, (t3, weights)))))))))
   (some (t, (t2, (t3, weights)))) := by kernel_rfl
theorem m_pick_Mark_eq (N : Nat) (t : (List Int)) (t2 : (List Int)) (t3 : (List (List Int))) (marked : (List Bool)) : m_pick_Mark (N + 1) (t, t2, t3, marked) = obind (makI (((List.length marked) : Nat) : Int) (8 : Nat)) fun z1 =>
  obind (l_pick_Mark_1 N N (marked, ((((List.length marked) : Nat) : Int), ((0 : Int), (t, (t2, (t3, (List.replicate z1 (0 : Int))))))))) fun z2 =>
  obind (m_sum_Build_o N (z2.1, (z2.2.1, (z2.2.2.1, z2.2.2.2)))) fun z3 =>
  some (z3.1, z3.2.1) := by kernel_rfl
theorem c_pick_Mark_ok (N : Nat) : (c_pick_Mark N).ok Try.prog := exF_ok (T := T) (CT := ct_pick_Mark) (N := N) (fun M => ⟨tOk, (ctAll_cons (c_sum_Build_o_ok M) ctAll_nil), mixed⟩) Try.func37 (by kernel_rfl) (by kernel_rfl) p_pick_Mark [.ag [.h (.sl (.i .i64)), .h (.sl (.i .i64)), .h (.sl (.sl (.i .i64)))], .h (.sl .b)] [] [(.sl (.i .i64)), (.sl (.i .i64)), (.sl (.sl (.i .i64))), (.sl .b)] r_pick_Mark true false [900] (by kernel_rfl) (fun y => by kernel_rfl) (fun h => by cases h) (fun y => by kernel_rfl) (m_pick_Mark N) (fun x => by kernel_rfl)
/-! archipelago/pick.Right -/
noncomputable def ct_pick_Right (N : Nat) : List Ctr := [c_sum_Weights N]
def i_pick_Right_1 : PS := ⟨[(5, .k (.ow 900)), (11, .k (.ow 900)), (12, .h (.i .i64)), (13, .h (.i .i64))], [(900, .arr 3 (.i .i64) true)], [(.i .i64), (.i .i64), (.sl (.i .i64))]⟩
def o_pick_Right_1 : List (Exit × PS) := [((.exit 0), ⟨[(5, .k (.ow 900))], [(900, .arr 3 (.i .i64) true)], [(.sl (.i .i64))]⟩), (.ret, ⟨[(4, .h .b)], [], [.b]⟩)]
def p_pick_Right_1 : Pl := .z
noncomputable def l_pick_Right_1 (N : Nat) : Nat → Int × Int × (List Int) → Option (((List Int)) ⊕ (Bool)) := loopF (exC T (ct_pick_Right N) N (codeAt [1, 1, 0, 1, 0, 0] (bodyOf Try.f35))) 24 i_pick_Right_1 o_pick_Right_1 p_pick_Right_1
def p_pick_Right : Pl := (.n .z (.n .z (.n (.n .z (.n (.loop i_pick_Right_1 o_pick_Right_1 p_pick_Right_1) .z)) .z)))
def r_pick_Right : PS := ⟨[(4, .h .b)], [], [.b]⟩
noncomputable def m_pick_Right (N : Nat) : (List Int) × (List Int) × (List (List Int)) × (List (List Int)) → Option (Bool) := exF T ct_pick_Right N (bodyOf Try.f35) 24 p_pick_Right [.ag [.h (.sl (.i .i64)), .h (.sl (.i .i64)), .h (.sl (.sl (.i .i64)))], .h (.sl (.sl (.i .i64)))] [] [(.sl (.i .i64)), (.sl (.i .i64)), (.sl (.sl (.i .i64))), (.sl (.sl (.i .i64)))] r_pick_Right
noncomputable def c_pick_Right (N : Nat) : Ctr := ⟨35, [.ag [.h (.sl (.i .i64)), .h (.sl (.i .i64)), .h (.sl (.sl (.i .i64)))], .h (.sl (.sl (.i .i64)))], [], [(.sl (.i .i64)), (.sl (.i .i64)), (.sl (.sl (.i .i64))), (.sl (.sl (.i .i64)))], Tup r_pick_Right.c, m_pick_Right N, fun y _ k => k (resG T (mkPS 24 r_pick_Right y) Try.f35.results.toList) (keepH' [] (mkPS 24 r_pick_Right y).h), false, true⟩
theorem l_pick_Right_1_z (N : Nat) (v : Int × Int × (List Int)) : l_pick_Right_1 N 0 v = none := by kernel_rfl
theorem l_pick_Right_1_s (N m : Nat) (v12 : Int) (v13 : Int) (w : (List Int)) : l_pick_Right_1 N (m + 1) (v12, v13, w) = cond (decide (v13 < v12))
   (obind (nthI w v13) fun z1 =>
    obind (nthI w v13) fun z2 =>
    cond (!(decide ((Int.fdiv z2 ((2 : Int) ^ (min (Int.toNat (1 : Int)) (64 : Nat)))) = (0 : Int))))
     (some (.inr false))
     ((l_pick_Right_1 N m (v12, ((IntKind.wrap .i64 (v13 + (1 : Int))), w)))))
   (some (.inl w)) := by kernel_rfl
theorem m_pick_Right_eq (N : Nat) (t : (List Int)) (t2 : (List Int)) (t3 : (List (List Int))) (marks : (List (List Int))) : m_pick_Right (N + 1) (t, t2, t3, marks) = obind (m_sum_Weights N (t, (t2, (t3, marks)))) fun z1 =>
  obind (l_pick_Right_1 N N ((((List.length z1) : Nat) : Int), ((0 : Int), z1))) fun z2 =>
  (match z2 with
  | .inl zy3 => some (decide ((0 : Int) < (((List.length zy3) : Nat) : Int)))
  | .inr zy4 => some zy4) := by kernel_rfl
theorem c_pick_Right_ok (N : Nat) : (c_pick_Right N).ok Try.prog := exF_ok (T := T) (CT := ct_pick_Right) (N := N) (fun M => ⟨tOk, (ctAll_cons (c_sum_Weights_ok M) ctAll_nil), mixed⟩) Try.func35 (by kernel_rfl) (by kernel_rfl) p_pick_Right [.ag [.h (.sl (.i .i64)), .h (.sl (.i .i64)), .h (.sl (.sl (.i .i64)))], .h (.sl (.sl (.i .i64)))] [] [(.sl (.i .i64)), (.sl (.i .i64)), (.sl (.sl (.i .i64))), (.sl (.sl (.i .i64)))] r_pick_Right false true [] (by kernel_rfl) (fun y => by kernel_rfl) (fun _ => ⟨rfl, rfl⟩) (fun y => by kernel_rfl) (m_pick_Right N) (fun x => by kernel_rfl)
/-! archipelago/pick.begun -/
noncomputable def ct_pick_begun (N : Nat) : List Ctr := [c_pick_Right N]
def p_pick_begun : Pl := .z
def r_pick_begun : PS := ⟨[(6, .k (.pt 900 0)), (7, .h (.i .i64))], [(900, .box 74 [.h (.sl (.i .i64)), .h (.sl (.i .i64)), .h (.sl (.sl (.i .i64))), .h (.sl (.sl (.i .i64))), .h (.i .i64), .h (.i .i64)])], [(.i .i64), (.sl (.i .i64)), (.sl (.i .i64)), (.sl (.sl (.i .i64))), (.sl (.sl (.i .i64))), (.i .i64), (.i .i64)]⟩
def r2_pick_begun : PS := ⟨[(7, .h (.i .i64))], [], [(.i .i64)]⟩
noncomputable def m_pick_begun (N : Nat) : (List Int) × (List Int) × (List (List Int)) × (List (List Int)) × Int → Option ((Int × (List Int) × (List Int) × (List (List Int)) × (List (List Int)) × Int × Int) ⊕ (Int)) := exF2 T ct_pick_begun N (bodyOf Try.f53) 31 p_pick_begun [.ag [.h (.sl (.i .i64)), .h (.sl (.i .i64)), .h (.sl (.sl (.i .i64)))], .h (.sl (.sl (.i .i64))), .h (.i .i64)] [] [(.sl (.i .i64)), (.sl (.i .i64)), (.sl (.sl (.i .i64))), (.sl (.sl (.i .i64))), (.i .i64)] r_pick_begun r2_pick_begun
noncomputable def c_pick_begun (N : Nat) : Ctr := ⟨53, [.ag [.h (.sl (.i .i64)), .h (.sl (.i .i64)), .h (.sl (.sl (.i .i64)))], .h (.sl (.sl (.i .i64))), .h (.i .i64)], [], [(.sl (.i .i64)), (.sl (.i .i64)), (.sl (.sl (.i .i64))), (.sl (.sl (.i .i64))), (.i .i64)], Sum (Tup r_pick_begun.c) (Tup r2_pick_begun.c), m_pick_begun N, el2 (fun a => (resG T (mkPS 31 r_pick_begun a) Try.f53.results.toList, keepH' [900] (mkPS 31 r_pick_begun a).h)) (fun b => (resG T (mkPS 31 r2_pick_begun b) Try.f53.results.toList, keepH' [] (mkPS 31 r2_pick_begun b).h)), true, false⟩
theorem m_pick_begun_eq (N : Nat) (t : (List Int)) (t2 : (List Int)) (t3 : (List (List Int))) (marks : (List (List Int))) (v2 : Int) : m_pick_begun (N + 1) (t, t2, t3, marks, v2) = obind (m_pick_Right N (t, (t2, (t3, marks)))) fun z1 =>
  cond (!z1)
   (some (.inr (1 : Int)))
   (cond (decide (v2 < (0 : Int)))
     (some (.inr (6 : Int)))
     (cond (decide ((((List.length t) : Nat) : Int) ≤ v2))
       (some (.inr (6 : Int)))
       (some (.inl ((0 : Int), (t, (t2, (t3, (marks, (v2, (((List.length t) : Nat) : Int))))))))))) := by kernel_rfl
theorem c_pick_begun_ok (N : Nat) : (c_pick_begun N).ok Try.prog := exF2_ok (T := T) (CT := ct_pick_begun) (N := N) (fun M => ⟨tOk, (ctAll_cons (c_pick_Right_ok M) ctAll_nil), mixed⟩) Try.func53 (by kernel_rfl) (by kernel_rfl) p_pick_begun [.ag [.h (.sl (.i .i64)), .h (.sl (.i .i64)), .h (.sl (.sl (.i .i64)))], .h (.sl (.sl (.i .i64))), .h (.i .i64)] [] [(.sl (.i .i64)), (.sl (.i .i64)), (.sl (.sl (.i .i64))), (.sl (.sl (.i .i64))), (.i .i64)] r_pick_begun r2_pick_begun true false [900] [] (by kernel_rfl) (fun y => by kernel_rfl) (fun y => by kernel_rfl) (fun h => by cases h) (fun y => by kernel_rfl) (fun y => by kernel_rfl) (m_pick_begun N) (fun x => by kernel_rfl)
/-! (*archipelago/pick.round).skip -/
noncomputable def ct__pick_round_skip_phhhhhh (N : Nat) : List Ctr := []
def i__pick_round_skip_phhhhhh_2 : PS := ⟨[(0, .k (.pt 4294967296 0)), (1, .h (.i .i64)), (6, .h (.i .i64)), (7, .h (.i .i64))], [(4294967296, .box 74 [.h (.sl (.i .i64)), .h (.sl (.i .i64)), .h (.sl (.sl (.i .i64))), .h (.sl (.sl (.i .i64))), .h (.i .i64), .h (.i .i64)])], [(.i .i64), (.i .i64), (.i .i64), (.sl (.i .i64)), (.sl (.i .i64)), (.sl (.sl (.i .i64))), (.sl (.sl (.i .i64))), (.i .i64), (.i .i64)]⟩
def o__pick_round_skip_phhhhhh_2 : List (Exit × PS) := [((.exit 2), ⟨[(1, .h (.i .i64))], [(4294967296, .box 74 [.h (.sl (.i .i64)), .h (.sl (.i .i64)), .h (.sl (.sl (.i .i64))), .h (.sl (.sl (.i .i64))), .h (.i .i64), .h (.i .i64)])], [(.i .i64), (.sl (.i .i64)), (.sl (.i .i64)), (.sl (.sl (.i .i64))), (.sl (.sl (.i .i64))), (.i .i64), (.i .i64)]⟩), ((.exit 1), ⟨[(0, .k (.pt 4294967296 0)), (1, .h (.i .i64)), (82, .h (.i .i64)), (83, .h (.i .i64)), (84, .h .b)], [(4294967296, .box 74 [.h (.sl (.i .i64)), .h (.sl (.i .i64)), .h (.sl (.sl (.i .i64))), .h (.sl (.sl (.i .i64))), .h (.i .i64), .h (.i .i64)])], [(.i .i64), (.i .i64), (.i .i64), .b, (.sl (.i .i64)), (.sl (.i .i64)), (.sl (.sl (.i .i64))), (.sl (.sl (.i .i64))), (.i .i64), (.i .i64)]⟩)]
def p__pick_round_skip_phhhhhh_2 : Pl := .z
noncomputable def l__pick_round_skip_phhhhhh_2 (N : Nat) : Nat → Int × Int × Int × (List Int) × (List Int) × (List (List Int)) × (List (List Int)) × Int × Int → Option ((Int × (List Int) × (List Int) × (List (List Int)) × (List (List Int)) × Int × Int) ⊕ (Int × Int × Int × Bool × (List Int) × (List Int) × (List (List Int)) × (List (List Int)) × Int × Int)) := loopF (exC T (ct__pick_round_skip_phhhhhh N) N (codeAt [1, 0, 1, 0, 0, 0, 1, 0, 1, 0, 1, 0, 0] (bodyOf Try.f54))) 116 i__pick_round_skip_phhhhhh_2 o__pick_round_skip_phhhhhh_2 p__pick_round_skip_phhhhhh_2
def i__pick_round_skip_phhhhhh_1 : PS := ⟨[(0, .k (.pt 4294967296 0)), (1, .h (.i .i64))], [(4294967296, .box 74 [.h (.sl (.i .i64)), .h (.sl (.i .i64)), .h (.sl (.sl (.i .i64))), .h (.sl (.sl (.i .i64))), .h (.i .i64), .h (.i .i64)])], [(.i .i64), (.sl (.i .i64)), (.sl (.i .i64)), (.sl (.sl (.i .i64))), (.sl (.sl (.i .i64))), (.i .i64), (.i .i64)]⟩
def o__pick_round_skip_phhhhhh_1 : List (Exit × PS) := [((.exit 0), ⟨[(1, .h (.i .i64))], [(4294967296, .box 74 [.h (.sl (.i .i64)), .h (.sl (.i .i64)), .h (.sl (.sl (.i .i64))), .h (.sl (.sl (.i .i64))), .h (.i .i64), .h (.i .i64)])], [(.i .i64), (.sl (.i .i64)), (.sl (.i .i64)), (.sl (.sl (.i .i64))), (.sl (.sl (.i .i64))), (.i .i64), (.i .i64)]⟩), (.ret, ⟨[(4, .h (.i .i64)), (5, .h .b)], [(4294967296, .box 74 [.h (.sl (.i .i64)), .h (.sl (.i .i64)), .h (.sl (.sl (.i .i64))), .h (.sl (.sl (.i .i64))), .h (.i .i64), .h (.i .i64)])], [(.i .i64), .b, (.sl (.i .i64)), (.sl (.i .i64)), (.sl (.sl (.i .i64))), (.sl (.sl (.i .i64))), (.i .i64), (.i .i64)]⟩)]
def p__pick_round_skip_phhhhhh_1 : Pl := (.n .z (.n (.n .z (.n (.n .z (.n (.loop i__pick_round_skip_phhhhhh_2 o__pick_round_skip_phhhhhh_2 p__pick_round_skip_phhhhhh_2) .z)) .z)) .z))
noncomputable def l__pick_round_skip_phhhhhh_1 (N : Nat) : Nat → Int × (List Int) × (List Int) × (List (List Int)) × (List (List Int)) × Int × Int → Option ((Int × (List Int) × (List Int) × (List (List Int)) × (List (List Int)) × Int × Int) ⊕ (Int × Bool × (List Int) × (List Int) × (List (List Int)) × (List (List Int)) × Int × Int)) := loopF (exC T (ct__pick_round_skip_phhhhhh N) N (codeAt [1, 0, 1, 0, 0, 0] (bodyOf Try.f54))) 116 i__pick_round_skip_phhhhhh_1 o__pick_round_skip_phhhhhh_1 p__pick_round_skip_phhhhhh_1
def p__pick_round_skip_phhhhhh : Pl := (.n .z (.n (.n .z (.n (.n (.loop i__pick_round_skip_phhhhhh_1 o__pick_round_skip_phhhhhh_1 p__pick_round_skip_phhhhhh_1) .z) .z)) .z))
def r__pick_round_skip_phhhhhh : PS := ⟨[(4, .h (.i .i64)), (5, .h .b)], [(4294967296, .box 74 [.h (.sl (.i .i64)), .h (.sl (.i .i64)), .h (.sl (.sl (.i .i64))), .h (.sl (.sl (.i .i64))), .h (.i .i64), .h (.i .i64)])], [(.i .i64), .b, (.sl (.i .i64)), (.sl (.i .i64)), (.sl (.sl (.i .i64))), (.sl (.sl (.i .i64))), (.i .i64), (.i .i64)]⟩
noncomputable def m__pick_round_skip_phhhhhh (N : Nat) : Int × (List Int) × (List Int) × (List (List Int)) × (List (List Int)) × Int × Int → Option (Int × Bool × (List Int) × (List Int) × (List (List Int)) × (List (List Int)) × Int × Int) := exF T ct__pick_round_skip_phhhhhh N (bodyOf Try.f54) 116 p__pick_round_skip_phhhhhh [.k (.pt 4294967296 0), .h (.i .i64)] [(4294967296, .box 74 [.h (.sl (.i .i64)), .h (.sl (.i .i64)), .h (.sl (.sl (.i .i64))), .h (.sl (.sl (.i .i64))), .h (.i .i64), .h (.i .i64)])] [(.i .i64), (.sl (.i .i64)), (.sl (.i .i64)), (.sl (.sl (.i .i64))), (.sl (.sl (.i .i64))), (.i .i64), (.i .i64)] r__pick_round_skip_phhhhhh
noncomputable def c__pick_round_skip_phhhhhh (N : Nat) : Ctr := ⟨54, [.k (.pt 4294967296 0), .h (.i .i64)], [(4294967296, .box 74 [.h (.sl (.i .i64)), .h (.sl (.i .i64)), .h (.sl (.sl (.i .i64))), .h (.sl (.sl (.i .i64))), .h (.i .i64), .h (.i .i64)])], [(.i .i64), (.sl (.i .i64)), (.sl (.i .i64)), (.sl (.sl (.i .i64))), (.sl (.sl (.i .i64))), (.i .i64), (.i .i64)], Tup r__pick_round_skip_phhhhhh.c, m__pick_round_skip_phhhhhh N, fun y _ k => k (resG T (mkPS 116 r__pick_round_skip_phhhhhh y) Try.f54.results.toList) (keepH' [4294967296] (mkPS 116 r__pick_round_skip_phhhhhh y).h), true, false⟩
theorem l__pick_round_skip_phhhhhh_2_z (N : Nat) (v : Int × Int × Int × (List Int) × (List Int) × (List (List Int)) × (List (List Int)) × Int × Int) : l__pick_round_skip_phhhhhh_2 N 0 v = none := by kernel_rfl
theorem l__pick_round_skip_phhhhhh_2_s (N m : Nat) (few : Int) (n : Int) (level : Int) (r : (List Int)) (r2 : (List Int)) (r3 : (List (List Int))) (r4 : (List (List Int))) (r5 : Int) (r6 : Int) : l__pick_round_skip_phhhhhh_2 N (m + 1) (few, n, level, r, r2, r3, r4, r5, r6) = cond (decide ((0 : Int) ≤ level))
   (obind (nthI r3 r5) fun z1 =>
    obind (nthI z1 level) fun z2 =>
    obind (remI (IntKind.wrap .i64 ((IntKind.wrap .i64 ((IntKind.wrap .i64 (z2 - r5)) + n)) - (1 : Int))) n) fun z3 =>
    obind (nthI r4 r5) fun z4 =>
    obind (nthI z4 level) fun z5 =>
    cond (decide ((IntKind.wrap .i64 (z3 + (1 : Int))) ≤ r6))
     (cond (decide (z5 ≤ few))
       (obind (nthI r3 r5) fun z6 =>
        obind (nthI z6 level) fun z7 =>
        some (.inr ((IntKind.wrap .i64 (few - z5)), (z5, (few, ((decide (z5 ≤ few)), (r, (r2, (r3, (r4, (z7, (IntKind.wrap .i64 (r6 - (IntKind.wrap .i64 (z3 + (1 : Int))))))))))))))))
       ((l__pick_round_skip_phhhhhh_2 N m (few, (n, ((IntKind.wrap .i64 (level - (1 : Int))), (r, (r2, (r3, (r4, (r5, r6)))))))))))
     ((l__pick_round_skip_phhhhhh_2 N m (few, (n, ((IntKind.wrap .i64 (level - (1 : Int))), (r, (r2, (r3, (r4, (r5, r6)))))))))))
   (some (.inl (few, (r, (r2, (r3, (r4, (r5, r6)))))))) := by kernel_rfl
theorem l__pick_round_skip_phhhhhh_1_z (N : Nat) (v : Int × (List Int) × (List Int) × (List (List Int)) × (List (List Int)) × Int × Int) : l__pick_round_skip_phhhhhh_1 N 0 v = none := by kernel_rfl
theorem l__pick_round_skip_phhhhhh_1_s (N m : Nat) (few : Int) (r : (List Int)) (r2 : (List Int)) (r3 : (List (List Int))) (r4 : (List (List Int))) (r5 : Int) (r6 : Int) : l__pick_round_skip_phhhhhh_1 N (m + 1) (few, r, r2, r3, r4, r5, r6) = cond (decide ((0 : Int) < r6))
   (obind (nthI r2 r5) fun z1 =>
    obind (l__pick_round_skip_phhhhhh_2 N N (few, ((((List.length r) : Nat) : Int), ((IntKind.wrap .i64 (z1 - (1 : Int))), (r, (r2, (r3, (r4, (r5, r6))))))))) fun z2 =>
    (match z2 with
    | .inl zy3 => some (.inr (zy3.1, (true, (zy3.2.1, (zy3.2.2.1, (zy3.2.2.2.1, (zy3.2.2.2.2.1, (zy3.2.2.2.2.2.1, zy3.2.2.2.2.2.2))))))))
    | .inr zy4 => (l__pick_round_skip_phhhhhh_1 N m (zy4.1, (zy4.2.2.2.2.1, (zy4.2.2.2.2.2.1, (zy4.2.2.2.2.2.2.1, (zy4.2.2.2.2.2.2.2.1, (zy4.2.2.2.2.2.2.2.2.1, zy4.2.2.2.2.2.2.2.2.2)))))))))
   (some (.inl (few, (r, (r2, (r3, (r4, (r5, r6)))))))) := by kernel_rfl
theorem m__pick_round_skip_phhhhhh_eq (N : Nat) (few : Int) (r : (List Int)) (r2 : (List Int)) (r3 : (List (List Int))) (r4 : (List (List Int))) (r5 : Int) (r6 : Int) : m__pick_round_skip_phhhhhh (N + 1) (few, r, r2, r3, r4, r5, r6) = obind (l__pick_round_skip_phhhhhh_1 N N (few, (r, (r2, (r3, (r4, (r5, r6))))))) fun z1 =>
  (match z1 with
  | .inl zy2 => some (zy2.1, (false, (zy2.2.1, (zy2.2.2.1, (zy2.2.2.2.1, (zy2.2.2.2.2.1, (zy2.2.2.2.2.2.1, zy2.2.2.2.2.2.2)))))))
  | .inr zy3 => some (zy3.1, (zy3.2.1, (zy3.2.2.1, (zy3.2.2.2.1, (zy3.2.2.2.2.1, (zy3.2.2.2.2.2.1, (zy3.2.2.2.2.2.2.1, zy3.2.2.2.2.2.2.2)))))))) := by kernel_rfl
theorem c__pick_round_skip_phhhhhh_ok (N : Nat) : (c__pick_round_skip_phhhhhh N).ok Try.prog := exF_ok (T := T) (CT := ct__pick_round_skip_phhhhhh) (N := N) (fun M => ⟨tOk, ctAll_nil, mixed⟩) Try.func54 (by kernel_rfl) (by kernel_rfl) p__pick_round_skip_phhhhhh [.k (.pt 4294967296 0), .h (.i .i64)] [(4294967296, .box 74 [.h (.sl (.i .i64)), .h (.sl (.i .i64)), .h (.sl (.sl (.i .i64))), .h (.sl (.sl (.i .i64))), .h (.i .i64), .h (.i .i64)])] [(.i .i64), (.sl (.i .i64)), (.sl (.i .i64)), (.sl (.sl (.i .i64))), (.sl (.sl (.i .i64))), (.i .i64), (.i .i64)] r__pick_round_skip_phhhhhh true false [4294967296] (by kernel_rfl) (fun y => by kernel_rfl) (fun h => by cases h) (fun y => by kernel_rfl) (m__pick_round_skip_phhhhhh N) (fun x => by kernel_rfl)
/-! archipelago/pick.First -/
noncomputable def ct_pick_First (N : Nat) : List Ctr := [c_pick_begun N, c__pick_round_skip_phhhhhh N]
def i_pick_First_1 : PS := ⟨[(3, .h (.i .i64)), (10, .k (.pt 900 0)), (12, .k (.ow 901))], [(900, .box 74 [.h (.sl (.i .i64)), .h (.sl (.i .i64)), .h (.sl (.sl (.i .i64))), .h (.sl (.sl (.i .i64))), .h (.i .i64), .h (.i .i64)]), (901, .arr 3 (.i .i64) true)], [(.i .i64), (.sl (.i .i64)), (.sl (.i .i64)), (.sl (.sl (.i .i64))), (.sl (.sl (.i .i64))), (.i .i64), (.i .i64), (.sl (.i .i64))]⟩
def o_pick_First_1 : List (Exit × PS) := [((.exit 0), ⟨[(12, .k (.ow 900))], [(900, .arr 3 (.i .i64) true)], [(.sl (.i .i64))]⟩)]
def p_pick_First_1 : Pl := .z
noncomputable def l_pick_First_1 (N : Nat) : Nat → Int × (List Int) × (List Int) × (List (List Int)) × (List (List Int)) × Int × Int × (List Int) → Option ((List Int)) := loopF (exC T (ct_pick_First N) N (codeAt [1, 1, 1, 1, 0, 0, 0] (bodyOf Try.f29))) 67 i_pick_First_1 o_pick_First_1 p_pick_First_1
def p_pick_First : Pl := (.n .z (.n .z (.n .z (.n .z (.n (.n (.loop i_pick_First_1 o_pick_First_1 p_pick_First_1) .z) .z)))))
def r_pick_First : PS := ⟨[(8, .k (.ow 900)), (9, .h (.i .i64))], [(900, .arr 3 (.i .i64) true)], [(.i .i64), (.sl (.i .i64))]⟩
noncomputable def m_pick_First (N : Nat) : (List Int) × (List Int) × (List (List Int)) × (List (List Int)) × Int × Int → Option (Int × (List Int)) := exF T ct_pick_First N (bodyOf Try.f29) 67 p_pick_First [.ag [.h (.sl (.i .i64)), .h (.sl (.i .i64)), .h (.sl (.sl (.i .i64)))], .h (.sl (.sl (.i .i64))), .h (.i .i64), .h (.i .i64)] [] [(.sl (.i .i64)), (.sl (.i .i64)), (.sl (.sl (.i .i64))), (.sl (.sl (.i .i64))), (.i .i64), (.i .i64)] r_pick_First
noncomputable def c_pick_First (N : Nat) : Ctr := ⟨29, [.ag [.h (.sl (.i .i64)), .h (.sl (.i .i64)), .h (.sl (.sl (.i .i64)))], .h (.sl (.sl (.i .i64))), .h (.i .i64), .h (.i .i64)], [], [(.sl (.i .i64)), (.sl (.i .i64)), (.sl (.sl (.i .i64))), (.sl (.sl (.i .i64))), (.i .i64), (.i .i64)], Tup r_pick_First.c, m_pick_First N, fun y _ k => k (resG T (mkPS 67 r_pick_First y) Try.f29.results.toList) (keepH' [900] (mkPS 67 r_pick_First y).h), true, true⟩
theorem l_pick_First_1_z (N : Nat) (v : Int × (List Int) × (List Int) × (List (List Int)) × (List (List Int)) × Int × Int × (List Int)) : l_pick_First_1 N 0 v = none := by kernel_rfl
theorem l_pick_First_1_s (N m : Nat) (k : Int) (r : (List Int)) (r2 : (List Int)) (r3 : (List (List Int))) (r4 : (List (List Int))) (r5 : Int) (r6 : Int) (l : (List Int)) : l_pick_First_1 N (m + 1) (k, r, r2, r3, r4, r5, r6, l) = cond (decide ((((List.length l) : Nat) : Int) < k))
   (obind (m__pick_round_skip_phhhhhh N ((0 : Int), (r, (r2, (r3, (r4, (r5, r6))))))) fun z1 =>
    cond (!z1.2.1)
     (some l)
     (obind (appI (8 : Nat) l [z1.2.2.2.2.2.2.1]) fun z2 =>
      obind (nthI z1.2.2.2.2.1 z1.2.2.2.2.2.2.1) fun z3 =>
      obind (nthI z3 (0 : Int)) fun z4 =>
      (l_pick_First_1 N m (k, (z1.2.2.1, (z1.2.2.2.1, (z1.2.2.2.2.1, (z1.2.2.2.2.2.1, (z4, ((IntKind.wrap .i64 (z1.2.2.2.2.2.2.2 - (1 : Int))), z2))))))))))
   (some l) := by kernel_rfl
theorem m_pick_First_eq (N : Nat) (t : (List Int)) (t2 : (List Int)) (t3 : (List (List Int))) (marks : (List (List Int))) (v2 : Int) (k : Int) : m_pick_First (N + 1) (t, t2, t3, marks, v2, k) = obind (m_pick_begun N (t, (t2, (t3, (marks, v2))))) fun z1 =>
  (match z1 with
  | .inl zy2 => cond (!(decide (zy2.1 = (0 : Int))))
     (some (zy2.1, []))
     (obind (l_pick_First_1 N N (k, (zy2.2.1, (zy2.2.2.1, (zy2.2.2.2.1, (zy2.2.2.2.2.1, (zy2.2.2.2.2.2.1, (zy2.2.2.2.2.2.2, [])))))))) fun z3 =>
      some ((0 : Int), z3))
  | .inr zy4 => cond (!(decide (zy4 = (0 : Int))))
     (some (zy4, []))
     (none)) := by kernel_rfl
theorem c_pick_First_ok (N : Nat) : (c_pick_First N).ok Try.prog := exF_ok (T := T) (CT := ct_pick_First) (N := N) (fun M => ⟨tOk, (ctAll_cons (c_pick_begun_ok M) (ctAll_cons (c__pick_round_skip_phhhhhh_ok M) ctAll_nil)), mixed⟩) Try.func29 (by kernel_rfl) (by kernel_rfl) p_pick_First [.ag [.h (.sl (.i .i64)), .h (.sl (.i .i64)), .h (.sl (.sl (.i .i64)))], .h (.sl (.sl (.i .i64))), .h (.i .i64), .h (.i .i64)] [] [(.sl (.i .i64)), (.sl (.i .i64)), (.sl (.sl (.i .i64))), (.sl (.sl (.i .i64))), (.i .i64), (.i .i64)] r_pick_First true true [900] (by kernel_rfl) (fun y => by kernel_rfl) (fun h => by cases h) (fun y => by kernel_rfl) (m_pick_First N) (fun x => by kernel_rfl)
/-! archipelago/pick.Nth -/
noncomputable def ct_pick_Nth (N : Nat) : List Ctr := [c_pick_begun N, c__pick_round_skip_phhhhhh N]
def p_pick_Nth : Pl := .z
def r_pick_Nth : PS := ⟨[(8, .h (.i .i64)), (9, .h (.i .i64))], [], [(.i .i64), (.i .i64)]⟩
noncomputable def m_pick_Nth (N : Nat) : (List Int) × (List Int) × (List (List Int)) × (List (List Int)) × Int × Int → Option (Int × Int) := exF T ct_pick_Nth N (bodyOf Try.f31) 38 p_pick_Nth [.ag [.h (.sl (.i .i64)), .h (.sl (.i .i64)), .h (.sl (.sl (.i .i64)))], .h (.sl (.sl (.i .i64))), .h (.i .i64), .h (.i .i64)] [] [(.sl (.i .i64)), (.sl (.i .i64)), (.sl (.sl (.i .i64))), (.sl (.sl (.i .i64))), (.i .i64), (.i .i64)] r_pick_Nth
noncomputable def c_pick_Nth (N : Nat) : Ctr := ⟨31, [.ag [.h (.sl (.i .i64)), .h (.sl (.i .i64)), .h (.sl (.sl (.i .i64)))], .h (.sl (.sl (.i .i64))), .h (.i .i64), .h (.i .i64)], [], [(.sl (.i .i64)), (.sl (.i .i64)), (.sl (.sl (.i .i64))), (.sl (.sl (.i .i64))), (.i .i64), (.i .i64)], Tup r_pick_Nth.c, m_pick_Nth N, fun y _ k => k (resG T (mkPS 38 r_pick_Nth y) Try.f31.results.toList) (keepH' [] (mkPS 38 r_pick_Nth y).h), false, true⟩
theorem m_pick_Nth_eq (N : Nat) (t : (List Int)) (t2 : (List Int)) (t3 : (List (List Int))) (marks : (List (List Int))) (v2 : Int) (n : Int) : m_pick_Nth (N + 1) (t, t2, t3, marks, v2, n) = obind (m_pick_begun N (t, (t2, (t3, (marks, v2))))) fun z1 =>
  (match z1 with
  | .inl zy2 => cond (!(decide (zy2.1 = (0 : Int))))
     (some ((0 : Int), zy2.1))
     (cond (decide (n < (0 : Int)))
       (some ((0 : Int), (6 : Int)))
       (obind (m__pick_round_skip_phhhhhh N (n, (zy2.2.1, (zy2.2.2.1, (zy2.2.2.2.1, (zy2.2.2.2.2.1, (zy2.2.2.2.2.2.1, zy2.2.2.2.2.2.2))))))) fun z3 =>
        cond (!z3.2.1)
         (some ((0 : Int), (6 : Int)))
         (some (z3.2.2.2.2.2.2.1, (0 : Int)))))
  | .inr zy4 => cond (!(decide (zy4 = (0 : Int))))
     (some ((0 : Int), zy4))
     (cond (decide (n < (0 : Int)))
       (some ((0 : Int), (6 : Int)))
       (none))) := by kernel_rfl
theorem c_pick_Nth_ok (N : Nat) : (c_pick_Nth N).ok Try.prog := exF_ok (T := T) (CT := ct_pick_Nth) (N := N) (fun M => ⟨tOk, (ctAll_cons (c_pick_begun_ok M) (ctAll_cons (c__pick_round_skip_phhhhhh_ok M) ctAll_nil)), mixed⟩) Try.func31 (by kernel_rfl) (by kernel_rfl) p_pick_Nth [.ag [.h (.sl (.i .i64)), .h (.sl (.i .i64)), .h (.sl (.sl (.i .i64)))], .h (.sl (.sl (.i .i64))), .h (.i .i64), .h (.i .i64)] [] [(.sl (.i .i64)), (.sl (.i .i64)), (.sl (.sl (.i .i64))), (.sl (.sl (.i .i64))), (.i .i64), (.i .i64)] r_pick_Nth false true [] (by kernel_rfl) (fun y => by kernel_rfl) (fun _ => ⟨rfl, rfl⟩) (fun y => by kernel_rfl) (m_pick_Nth N) (fun x => by kernel_rfl)
/-! archipelago/pick.Rank -/
noncomputable def ct_pick_Rank (N : Nat) : List Ctr := [c_pick_Right N, c_sum_Between N]
def p_pick_Rank : Pl := .z
def r_pick_Rank : PS := ⟨[(8, .h (.i .i64)), (9, .h (.i .i64))], [], [(.i .i64), (.i .i64)]⟩
noncomputable def m_pick_Rank (N : Nat) : (List Int) × (List Int) × (List (List Int)) × (List (List Int)) × Int × Int → Option (Int × Int) := exF T ct_pick_Rank N (bodyOf Try.f33) 28 p_pick_Rank [.ag [.h (.sl (.i .i64)), .h (.sl (.i .i64)), .h (.sl (.sl (.i .i64)))], .h (.sl (.sl (.i .i64))), .h (.i .i64), .h (.i .i64)] [] [(.sl (.i .i64)), (.sl (.i .i64)), (.sl (.sl (.i .i64))), (.sl (.sl (.i .i64))), (.i .i64), (.i .i64)] r_pick_Rank
noncomputable def c_pick_Rank (N : Nat) : Ctr := ⟨33, [.ag [.h (.sl (.i .i64)), .h (.sl (.i .i64)), .h (.sl (.sl (.i .i64)))], .h (.sl (.sl (.i .i64))), .h (.i .i64), .h (.i .i64)], [], [(.sl (.i .i64)), (.sl (.i .i64)), (.sl (.sl (.i .i64))), (.sl (.sl (.i .i64))), (.i .i64), (.i .i64)], Tup r_pick_Rank.c, m_pick_Rank N, fun y _ k => k (resG T (mkPS 28 r_pick_Rank y) Try.f33.results.toList) (keepH' [] (mkPS 28 r_pick_Rank y).h), false, true⟩
theorem m_pick_Rank_eq (N : Nat) (t : (List Int)) (t2 : (List Int)) (t3 : (List (List Int))) (marks : (List (List Int))) (v2 : Int) (place : Int) : m_pick_Rank (N + 1) (t, t2, t3, marks, v2, place) = obind (m_pick_Right N (t, (t2, (t3, marks)))) fun z1 =>
  cond (!z1)
   (some ((0 : Int), (1 : Int)))
   (obind (m_sum_Between N (t, (t2, (t3, (marks, (v2, place)))))) fun z2 =>
    some (z2.1, z2.2.2)) := by kernel_rfl
theorem c_pick_Rank_ok (N : Nat) : (c_pick_Rank N).ok Try.prog := exF_ok (T := T) (CT := ct_pick_Rank) (N := N) (fun M => ⟨tOk, (ctAll_cons (c_pick_Right_ok M) (ctAll_cons (c_sum_Between_ok M) ctAll_nil)), mixed⟩) Try.func33 (by kernel_rfl) (by kernel_rfl) p_pick_Rank [.ag [.h (.sl (.i .i64)), .h (.sl (.i .i64)), .h (.sl (.sl (.i .i64)))], .h (.sl (.sl (.i .i64))), .h (.i .i64), .h (.i .i64)] [] [(.sl (.i .i64)), (.sl (.i .i64)), (.sl (.sl (.i .i64))), (.sl (.sl (.i .i64))), (.i .i64), (.i .i64)] r_pick_Rank false true [] (by kernel_rfl) (fun y => by kernel_rfl) (fun _ => ⟨rfl, rfl⟩) (fun y => by kernel_rfl) (m_pick_Rank N) (fun x => by kernel_rfl)
/-! archipelago/pick.Turn -/
noncomputable def ct_pick_Turn (N : Nat) : List Ctr := [c_pick_Right N, c_sum_Weights N, c_sum_Build_o N]
def i_pick_Turn_1 : PS := ⟨[(3, .k (.pt 900 0)), (8, .k (.ow 901)), (18, .h (.sl (.i .i64))), (19, .h (.i .i64)), (20, .h (.i .i64))], [(900, .box 25 [.h (.sl (.i .i64)), .h (.sl (.i .i64)), .h (.sl (.sl (.i .i64)))]), (901, .arr 3 (.i .i64) true)], [(.sl (.i .i64)), (.i .i64), (.i .i64), (.sl (.i .i64)), (.sl (.i .i64)), (.sl (.sl (.i .i64))), (.sl (.i .i64))]⟩
def o_pick_Turn_1 : List (Exit × PS) := [((.exit 0), ⟨[(3, .k (.pt 900 0)), (8, .k (.ow 901))], [(900, .box 25 [.h (.sl (.i .i64)), .h (.sl (.i .i64)), .h (.sl (.sl (.i .i64)))]), (901, .arr 3 (.i .i64) true)], [(.sl (.i .i64)), (.sl (.i .i64)), (.sl (.sl (.i .i64))), (.sl (.i .i64))]⟩), (.ret, ⟨[(6, .k .nil), (7, .h (.i .i64))], [], [(.i .i64)]⟩)]
def p_pick_Turn_1 : Pl := .z
noncomputable def l_pick_Turn_1 (N : Nat) : Nat → (List Int) × Int × Int × (List Int) × (List Int) × (List (List Int)) × (List Int) → Option (((List Int) × (List Int) × (List (List Int)) × (List Int)) ⊕ (Int)) := loopF (exC T (ct_pick_Turn N) N (codeAt [1, 1, 1, 0, 1, 0, 0] (bodyOf Try.f39))) 44 i_pick_Turn_1 o_pick_Turn_1 p_pick_Turn_1
def p_pick_Turn : Pl := (.n .z (.n .z (.n .z (.n (.n .z (.n (.loop i_pick_Turn_1 o_pick_Turn_1 p_pick_Turn_1) .z)) .z))))
def r_pick_Turn : PS := ⟨[(6, .k (.ow 900)), (7, .h (.i .i64))], [(900, .arr 22 (.sl (.i .i64)) true)], [(.i .i64), (.sl (.sl (.i .i64)))]⟩
noncomputable def m_pick_Turn (N : Nat) : (List Int) × (List Int) × (List (List Int)) × (List (List Int)) × (List Int) → Option (Int × (List (List Int))) := exF T ct_pick_Turn N (bodyOf Try.f39) 44 p_pick_Turn [.ag [.h (.sl (.i .i64)), .h (.sl (.i .i64)), .h (.sl (.sl (.i .i64)))], .h (.sl (.sl (.i .i64))), .h (.sl (.i .i64))] [] [(.sl (.i .i64)), (.sl (.i .i64)), (.sl (.sl (.i .i64))), (.sl (.sl (.i .i64))), (.sl (.i .i64))] r_pick_Turn
noncomputable def c_pick_Turn (N : Nat) : Ctr := ⟨39, [.ag [.h (.sl (.i .i64)), .h (.sl (.i .i64)), .h (.sl (.sl (.i .i64)))], .h (.sl (.sl (.i .i64))), .h (.sl (.i .i64))], [], [(.sl (.i .i64)), (.sl (.i .i64)), (.sl (.sl (.i .i64))), (.sl (.sl (.i .i64))), (.sl (.i .i64))], Tup r_pick_Turn.c, m_pick_Turn N, fun y _ k => k (resG T (mkPS 44 r_pick_Turn y) Try.f39.results.toList) (keepH' [900] (mkPS 44 r_pick_Turn y).h), true, false⟩
theorem l_pick_Turn_1_z (N : Nat) (v : (List Int) × Int × Int × (List Int) × (List Int) × (List (List Int)) × (List Int)) : l_pick_Turn_1 N 0 v = none := by kernel_rfl
theorem l_pick_Turn_1_s (N m : Nat) (v18 : (List Int)) (v19 : Int) (v20 : Int) (t : (List Int)) (t2 : (List Int)) (t3 : (List (List Int))) (w : (List Int)) : l_pick_Turn_1 N (m + 1) (v18, v19, v20, t, t2, t3, w) = cond (decide (v20 < v19))
   (obind (nthI v18 v20) fun z1 =>
    cond (decide (z1 < (0 : Int)))
     (some (.inr (6 : Int)))
     (cond (decide ((((List.length w) : Nat) : Int) ≤ z1))
       (some (.inr (6 : Int)))
       (obind (nthI w z1) fun z2 =>
        obind (nthI w z1) fun z3 =>
        obind (nthI w z1) fun z4 =>
        obind (nthI w z1) fun z5 =>
        (l_pick_Turn_1 N m (v18, (v19, ((IntKind.wrap .i64 (v20 + (1 : Int))), (t, (t2, (t3, (List.set w (Int.toNat z1) (bitI .xor .i64 z3 (1 : Int)))))))))))))
   (some (.inl (t, (t2, (t3, w))))) := by kernel_rfl
theorem m_pick_Turn_eq (N : Nat) (t : (List Int)) (t2 : (List Int)) (t3 : (List (List Int))) (marks : (List (List Int))) (places : (List Int)) : m_pick_Turn (N + 1) (t, t2, t3, marks, places) = obind (m_pick_Right N (t, (t2, (t3, marks)))) fun z1 =>
  cond (!z1)
   (some ((1 : Int), []))
   (obind (m_sum_Weights N (t, (t2, (t3, marks)))) fun z2 =>
    obind (l_pick_Turn_1 N N (places, ((((List.length places) : Nat) : Int), ((0 : Int), (t, (t2, (t3, z2))))))) fun z3 =>
    (match z3 with
    | .inl zy4 => obind (m_sum_Build_o N (zy4.1, (zy4.2.1, (zy4.2.2.1, zy4.2.2.2)))) fun z5 =>
      some (z5.1, z5.2.1)
    | .inr zy6 => some (zy6, []))) := by kernel_rfl
theorem c_pick_Turn_ok (N : Nat) : (c_pick_Turn N).ok Try.prog := exF_ok (T := T) (CT := ct_pick_Turn) (N := N) (fun M => ⟨tOk, (ctAll_cons (c_pick_Right_ok M) (ctAll_cons (c_sum_Weights_ok M) (ctAll_cons (c_sum_Build_o_ok M) ctAll_nil))), mixed⟩) Try.func39 (by kernel_rfl) (by kernel_rfl) p_pick_Turn [.ag [.h (.sl (.i .i64)), .h (.sl (.i .i64)), .h (.sl (.sl (.i .i64)))], .h (.sl (.sl (.i .i64))), .h (.sl (.i .i64))] [] [(.sl (.i .i64)), (.sl (.i .i64)), (.sl (.sl (.i .i64))), (.sl (.sl (.i .i64))), (.sl (.i .i64))] r_pick_Turn true false [900] (by kernel_rfl) (fun y => by kernel_rfl) (fun h => by cases h) (fun y => by kernel_rfl) (m_pick_Turn N) (fun x => by kernel_rfl)
/-! archipelago/archipelagolaw17.alive -/
noncomputable def ct_law17_alive (N : Nat) : List Ctr := [c_ref14_Build N, c_pick_Mark N, c_pick_First N, c_pick_Nth N, c_pick_Rank N, c_pick_Turn N, c_ref01_Ints N, c_pick_Right N]
def p_law17_alive : Pl := .z
def r_law17_alive : PS := ⟨[(0, .h .b)], [], [.b]⟩
noncomputable def m_law17_alive (N : Nat) : Unit → Option (Bool) := exF T ct_law17_alive N (bodyOf Try.f27) 120 p_law17_alive [] [] [] r_law17_alive
noncomputable def c_law17_alive (N : Nat) : Ctr := ⟨27, [], [], [], Tup r_law17_alive.c, m_law17_alive N, fun y _ k => k (resG T (mkPS 120 r_law17_alive y) Try.f27.results.toList) (keepH' [] (mkPS 120 r_law17_alive y).h), false, true⟩
theorem m_law17_alive_eq (N : Nat) : m_law17_alive (N + 1) () = obind (m_ref14_Build N ([(5 : Int), (6 : Int), (7 : Int), (8 : Int)], [(1 : Int), (3 : Int), (1 : Int), (2 : Int)])) fun z1 =>
  obind (m_pick_Mark N (z1.2.1, (z1.2.2.1, (z1.2.2.2, [true, false, true, true])))) fun z2 =>
  obind (m_pick_First N (z1.2.1, (z1.2.2.1, (z1.2.2.2, (z2.2, ((1 : Int), (2 : Int))))))) fun z3 =>
  obind (m_pick_Nth N (z1.2.1, (z1.2.2.1, (z1.2.2.2, (z2.2, ((3 : Int), (1 : Int))))))) fun z4 =>
  obind (m_pick_Rank N (z1.2.1, (z1.2.2.1, (z1.2.2.2, (z2.2, ((2 : Int), (1 : Int))))))) fun z5 =>
  obind (m_pick_Turn N (z1.2.1, (z1.2.2.1, (z1.2.2.2, (z2.2, [(0 : Int), (1 : Int), (0 : Int)]))))) fun z6 =>
  obind (m_pick_Nth N (z1.2.1, (z1.2.2.1, (z1.2.2.2, (z2.2, ((0 : Int), (3 : Int))))))) fun z7 =>
  obind (m_pick_First N (z1.2.1, (z1.2.2.1, (z1.2.2.2, (z2.2, ((4 : Int), (1 : Int))))))) fun z8 =>
  cond (!(decide (z2.1 = (0 : Int))))
   (some false)
   (cond (!(decide (z3.1 = (0 : Int))))
     (some false)
     (cond (!(decide (z4.2 = (0 : Int))))
       (some false)
       (cond (!(decide (z5.2 = (0 : Int))))
         (some false)
         (cond (!(decide (z6.1 = (0 : Int))))
           (some false)
           (cond (!(decide (z7.2 = (6 : Int))))
             (some false)
             (cond (!(decide (z8.1 = (6 : Int))))
               (some false)
               (cond (!(decide ((((List.length z6.2) : Nat) : Int) = (4 : Int))))
                 (some false)
                 (obind (m_ref01_Ints N (z3.2, [(2 : Int), (3 : Int)])) fun z9 =>
                  cond z9
                   (cond (decide (z4.1 = (0 : Int)))
                     (cond (decide (z5.1 = (3 : Int)))
                       (obind (m_pick_Right N (z1.2.1, (z1.2.2.1, (z1.2.2.2, z6.2)))) fun z10 =>
                        cond z10
                         (obind (nthI z6.2 (1 : Int)) fun z11 =>
                          obind (nthI z6.2 (1 : Int)) fun z12 =>
                          obind (m_ref01_Ints N (z12, [(1 : Int), (2 : Int), (4 : Int)])) fun z13 =>
                          some z13)
                         (some false))
                       (some false))
                     (some false))
                   (some false))))))))) := by kernel_rfl
theorem c_law17_alive_ok (N : Nat) : (c_law17_alive N).ok Try.prog := exF_ok (T := T) (CT := ct_law17_alive) (N := N) (fun M => ⟨tOk, (ctAll_cons (c_ref14_Build_ok M) (ctAll_cons (c_pick_Mark_ok M) (ctAll_cons (c_pick_First_ok M) (ctAll_cons (c_pick_Nth_ok M) (ctAll_cons (c_pick_Rank_ok M) (ctAll_cons (c_pick_Turn_ok M) (ctAll_cons (c_ref01_Ints_ok M) (ctAll_cons (c_pick_Right_ok M) ctAll_nil)))))))), mixed⟩) Try.func27 (by kernel_rfl) (by kernel_rfl) p_law17_alive [] [] [] r_law17_alive false true [] (by kernel_rfl) (fun y => by kernel_rfl) (fun _ => ⟨rfl, rfl⟩) (fun y => by kernel_rfl) (m_law17_alive N) (fun x => by kernel_rfl)
/-! archipelago/archipelagolaw17.great -/
noncomputable def ct_law17_great (N : Nat) : List Ctr := [c_ref14_Great N, c_ref16_Great N]
def p_law17_great : Pl := .z
def r_law17_great : PS := ⟨[(4, .h .b)], [], [.b]⟩
noncomputable def m_law17_great (N : Nat) : (List Int) × (List Int) × (List (List Int)) × (List (List Int)) → Option (Bool) := exF T ct_law17_great N (bodyOf Try.f28) 11 p_law17_great [.ag [.h (.sl (.i .i64)), .h (.sl (.i .i64)), .h (.sl (.sl (.i .i64)))], .h (.sl (.sl (.i .i64)))] [] [(.sl (.i .i64)), (.sl (.i .i64)), (.sl (.sl (.i .i64))), (.sl (.sl (.i .i64)))] r_law17_great
noncomputable def c_law17_great (N : Nat) : Ctr := ⟨28, [.ag [.h (.sl (.i .i64)), .h (.sl (.i .i64)), .h (.sl (.sl (.i .i64)))], .h (.sl (.sl (.i .i64)))], [], [(.sl (.i .i64)), (.sl (.i .i64)), (.sl (.sl (.i .i64))), (.sl (.sl (.i .i64)))], Tup r_law17_great.c, m_law17_great N, fun y _ k => k (resG T (mkPS 11 r_law17_great y) Try.f28.results.toList) (keepH' [] (mkPS 11 r_law17_great y).h), false, true⟩
theorem m_law17_great_eq (N : Nat) (t : (List Int)) (t2 : (List Int)) (t3 : (List (List Int))) (marks : (List (List Int))) : m_law17_great (N + 1) (t, t2, t3, marks) = obind (m_ref14_Great N (t, (t2, (t3, (200 : Int))))) fun z1 =>
  cond z1
   (some true)
   (obind (m_ref16_Great N (marks, (200 : Int))) fun z2 =>
    some z2) := by kernel_rfl
theorem c_law17_great_ok (N : Nat) : (c_law17_great N).ok Try.prog := exF_ok (T := T) (CT := ct_law17_great) (N := N) (fun M => ⟨tOk, (ctAll_cons (c_ref14_Great_ok M) (ctAll_cons (c_ref16_Great_ok M) ctAll_nil)), mixed⟩) Try.func28 (by kernel_rfl) (by kernel_rfl) p_law17_great [.ag [.h (.sl (.i .i64)), .h (.sl (.i .i64)), .h (.sl (.sl (.i .i64)))], .h (.sl (.sl (.i .i64)))] [] [(.sl (.i .i64)), (.sl (.i .i64)), (.sl (.sl (.i .i64))), (.sl (.sl (.i .i64)))] r_law17_great false true [] (by kernel_rfl) (fun y => by kernel_rfl) (fun _ => ⟨rfl, rfl⟩) (fun y => by kernel_rfl) (m_law17_great N) (fun x => by kernel_rfl)
/-! archipelago/archipelagoref17.Right -/
noncomputable def ct_ref17_Right (N : Nat) : List Ctr := [c_ref16_Weights N]
def i_ref17_Right_1 : PS := ⟨[(5, .k (.ow 900)), (6, .h (.i .i64))], [(900, .arr 3 (.i .i64) true)], [(.i .i64), (.sl (.i .i64))]⟩
def o_ref17_Right_1 : List (Exit × PS) := [((.exit 0), ⟨[(5, .k (.ow 900))], [(900, .arr 3 (.i .i64) true)], [(.sl (.i .i64))]⟩), (.ret, ⟨[(4, .h .b)], [], [.b]⟩)]
def p_ref17_Right_1 : Pl := .z
noncomputable def l_ref17_Right_1 (N : Nat) : Nat → Int × (List Int) → Option (((List Int)) ⊕ (Bool)) := loopF (exC T (ct_ref17_Right N) N (codeAt [1, 1, 0, 1, 0, 0] (bodyOf Try.f36))) 31 i_ref17_Right_1 o_ref17_Right_1 p_ref17_Right_1
def p_ref17_Right : Pl := (.n .z (.n .z (.n (.n .z (.n (.loop i_ref17_Right_1 o_ref17_Right_1 p_ref17_Right_1) .z)) .z)))
def r_ref17_Right : PS := ⟨[(4, .h .b)], [], [.b]⟩
noncomputable def m_ref17_Right (N : Nat) : (List Int) × (List Int) × (List (List Int)) × (List (List Int)) → Option (Bool) := exF T ct_ref17_Right N (bodyOf Try.f36) 31 p_ref17_Right [.ag [.h (.sl (.i .i64)), .h (.sl (.i .i64)), .h (.sl (.sl (.i .i64)))], .h (.sl (.sl (.i .i64)))] [] [(.sl (.i .i64)), (.sl (.i .i64)), (.sl (.sl (.i .i64))), (.sl (.sl (.i .i64)))] r_ref17_Right
noncomputable def c_ref17_Right (N : Nat) : Ctr := ⟨36, [.ag [.h (.sl (.i .i64)), .h (.sl (.i .i64)), .h (.sl (.sl (.i .i64)))], .h (.sl (.sl (.i .i64)))], [], [(.sl (.i .i64)), (.sl (.i .i64)), (.sl (.sl (.i .i64))), (.sl (.sl (.i .i64)))], Tup r_ref17_Right.c, m_ref17_Right N, fun y _ k => k (resG T (mkPS 31 r_ref17_Right y) Try.f36.results.toList) (keepH' [] (mkPS 31 r_ref17_Right y).h), false, true⟩
theorem l_ref17_Right_1_z (N : Nat) (v : Int × (List Int)) : l_ref17_Right_1 N 0 v = none := by kernel_rfl
theorem l_ref17_Right_1_s (N m : Nat) (i : Int) (w : (List Int)) : l_ref17_Right_1 N (m + 1) (i, w) = cond (decide (i < (((List.length w) : Nat) : Int)))
   (obind (nthI w i) fun z1 =>
    obind (nthI w i) fun z2 =>
    cond (!(decide (z2 = (0 : Int))))
     (obind (nthI w i) fun z3 =>
      obind (nthI w i) fun z4 =>
      cond (!(decide (z4 = (1 : Int))))
       (some (.inr false))
       ((l_ref17_Right_1 N m ((IntKind.wrap .i64 (i + (1 : Int))), w))))
     ((l_ref17_Right_1 N m ((IntKind.wrap .i64 (i + (1 : Int))), w))))
   (some (.inl w)) := by kernel_rfl
theorem m_ref17_Right_eq (N : Nat) (t : (List Int)) (t2 : (List Int)) (t3 : (List (List Int))) (marks : (List (List Int))) : m_ref17_Right (N + 1) (t, t2, t3, marks) = obind (m_ref16_Weights N (t, (t2, (t3, marks)))) fun z1 =>
  obind (l_ref17_Right_1 N N ((0 : Int), z1)) fun z2 =>
  (match z2 with
  | .inl zy3 => some (decide ((0 : Int) < (((List.length zy3) : Nat) : Int)))
  | .inr zy4 => some zy4) := by kernel_rfl
theorem c_ref17_Right_ok (N : Nat) : (c_ref17_Right N).ok Try.prog := exF_ok (T := T) (CT := ct_ref17_Right) (N := N) (fun M => ⟨tOk, (ctAll_cons (c_ref16_Weights_ok M) ctAll_nil), mixed⟩) Try.func36 (by kernel_rfl) (by kernel_rfl) p_ref17_Right [.ag [.h (.sl (.i .i64)), .h (.sl (.i .i64)), .h (.sl (.sl (.i .i64)))], .h (.sl (.sl (.i .i64)))] [] [(.sl (.i .i64)), (.sl (.i .i64)), (.sl (.sl (.i .i64))), (.sl (.sl (.i .i64)))] r_ref17_Right false true [] (by kernel_rfl) (fun y => by kernel_rfl) (fun _ => ⟨rfl, rfl⟩) (fun y => by kernel_rfl) (m_ref17_Right N) (fun x => by kernel_rfl)
/-! archipelago/archipelagoref17.First -/
noncomputable def ct_ref17_First (N : Nat) : List Ctr := [c_ref17_Right N]
def i_ref17_First_1 : PS := ⟨[(1, .h (.sl (.sl (.i .i64)))), (2, .h (.i .i64)), (3, .h (.i .i64)), (10, .h (.i .i64)), (11, .k (.ow 900)), (12, .h (.i .i64))], [(900, .arr 3 (.i .i64) true)], [(.sl (.sl (.i .i64))), (.i .i64), (.i .i64), (.i .i64), (.i .i64), (.sl (.i .i64))]⟩
def o_ref17_First_1 : List (Exit × PS) := [((.exit 0), ⟨[(11, .k (.ow 900))], [(900, .arr 3 (.i .i64) true)], [(.sl (.i .i64))]⟩)]
def p_ref17_First_1 : Pl := .z
noncomputable def l_ref17_First_1 (N : Nat) : Nat → (List (List Int)) × Int × Int × Int × Int × (List Int) → Option ((List Int)) := loopF (exC T (ct_ref17_First N) N (codeAt [1, 1, 1, 1, 1, 0, 1, 0, 0] (bodyOf Try.f30))) 56 i_ref17_First_1 o_ref17_First_1 p_ref17_First_1
def p_ref17_First : Pl := (.n .z (.n .z (.n .z (.n .z (.n .z (.n (.n .z (.n (.loop i_ref17_First_1 o_ref17_First_1 p_ref17_First_1) .z)) .z))))))
def r_ref17_First : PS := ⟨[(8, .k (.ow 900)), (9, .h (.i .i64))], [(900, .arr 3 (.i .i64) true)], [(.i .i64), (.sl (.i .i64))]⟩
noncomputable def m_ref17_First (N : Nat) : (List Int) × (List Int) × (List (List Int)) × (List (List Int)) × Int × Int → Option (Int × (List Int)) := exF T ct_ref17_First N (bodyOf Try.f30) 56 p_ref17_First [.ag [.h (.sl (.i .i64)), .h (.sl (.i .i64)), .h (.sl (.sl (.i .i64)))], .h (.sl (.sl (.i .i64))), .h (.i .i64), .h (.i .i64)] [] [(.sl (.i .i64)), (.sl (.i .i64)), (.sl (.sl (.i .i64))), (.sl (.sl (.i .i64))), (.i .i64), (.i .i64)] r_ref17_First
noncomputable def c_ref17_First (N : Nat) : Ctr := ⟨30, [.ag [.h (.sl (.i .i64)), .h (.sl (.i .i64)), .h (.sl (.sl (.i .i64)))], .h (.sl (.sl (.i .i64))), .h (.i .i64), .h (.i .i64)], [], [(.sl (.i .i64)), (.sl (.i .i64)), (.sl (.sl (.i .i64))), (.sl (.sl (.i .i64))), (.i .i64), (.i .i64)], Tup r_ref17_First.c, m_ref17_First N, fun y _ k => k (resG T (mkPS 56 r_ref17_First y) Try.f30.results.toList) (keepH' [900] (mkPS 56 r_ref17_First y).h), true, true⟩
theorem l_ref17_First_1_z (N : Nat) (v : (List (List Int)) × Int × Int × Int × Int × (List Int)) : l_ref17_First_1 N 0 v = none := by kernel_rfl
theorem l_ref17_First_1_s (N m : Nat) (marks : (List (List Int))) (v2 : Int) (k : Int) (n : Int) (i : Int) (out : (List Int)) : l_ref17_First_1 N (m + 1) (marks, v2, k, n, i, out) = cond (decide (i < n))
   (cond (decide ((((List.length out) : Nat) : Int) < k))
     (obind (remI (IntKind.wrap .i64 (v2 + i)) n) fun z1 =>
      obind (nthI marks z1) fun z2 =>
      obind (nthI z2 (0 : Int)) fun z3 =>
      cond (decide (z3 = (1 : Int)))
       (obind (appI (8 : Nat) out [z1]) fun z4 =>
        (l_ref17_First_1 N m (marks, (v2, (k, (n, ((IntKind.wrap .i64 (i + (1 : Int))), z4)))))))
       ((l_ref17_First_1 N m (marks, (v2, (k, (n, ((IntKind.wrap .i64 (i + (1 : Int))), out))))))))
     (some out))
   (some out) := by kernel_rfl
theorem m_ref17_First_eq (N : Nat) (t : (List Int)) (t2 : (List Int)) (t3 : (List (List Int))) (marks : (List (List Int))) (v2 : Int) (k : Int) : m_ref17_First (N + 1) (t, t2, t3, marks, v2, k) = obind (m_ref17_Right N (t, (t2, (t3, marks)))) fun z1 =>
  cond (!z1)
   (some ((1 : Int), []))
   (cond (decide (v2 < (0 : Int)))
     (some ((6 : Int), []))
     (cond (decide ((((List.length t) : Nat) : Int) ≤ v2))
       (some ((6 : Int), []))
       (obind (l_ref17_First_1 N N (marks, (v2, (k, ((((List.length t) : Nat) : Int), ((0 : Int), [])))))) fun z2 =>
        some ((0 : Int), z2)))) := by kernel_rfl
theorem c_ref17_First_ok (N : Nat) : (c_ref17_First N).ok Try.prog := exF_ok (T := T) (CT := ct_ref17_First) (N := N) (fun M => ⟨tOk, (ctAll_cons (c_ref17_Right_ok M) ctAll_nil), mixed⟩) Try.func30 (by kernel_rfl) (by kernel_rfl) p_ref17_First [.ag [.h (.sl (.i .i64)), .h (.sl (.i .i64)), .h (.sl (.sl (.i .i64)))], .h (.sl (.sl (.i .i64))), .h (.i .i64), .h (.i .i64)] [] [(.sl (.i .i64)), (.sl (.i .i64)), (.sl (.sl (.i .i64))), (.sl (.sl (.i .i64))), (.i .i64), (.i .i64)] r_ref17_First true true [900] (by kernel_rfl) (fun y => by kernel_rfl) (fun h => by cases h) (fun y => by kernel_rfl) (m_ref17_First N) (fun x => by kernel_rfl)
/-! archipelago/archipelagoref17.Nth -/
noncomputable def ct_ref17_Nth (N : Nat) : List Ctr := [c_ref17_First N]
def p_ref17_Nth : Pl := .z
def r_ref17_Nth : PS := ⟨[(8, .h (.i .i64)), (9, .h (.i .i64))], [], [(.i .i64), (.i .i64)]⟩
noncomputable def m_ref17_Nth (N : Nat) : (List Int) × (List Int) × (List (List Int)) × (List (List Int)) × Int × Int → Option (Int × Int) := exF T ct_ref17_Nth N (bodyOf Try.f32) 34 p_ref17_Nth [.ag [.h (.sl (.i .i64)), .h (.sl (.i .i64)), .h (.sl (.sl (.i .i64)))], .h (.sl (.sl (.i .i64))), .h (.i .i64), .h (.i .i64)] [] [(.sl (.i .i64)), (.sl (.i .i64)), (.sl (.sl (.i .i64))), (.sl (.sl (.i .i64))), (.i .i64), (.i .i64)] r_ref17_Nth
noncomputable def c_ref17_Nth (N : Nat) : Ctr := ⟨32, [.ag [.h (.sl (.i .i64)), .h (.sl (.i .i64)), .h (.sl (.sl (.i .i64)))], .h (.sl (.sl (.i .i64))), .h (.i .i64), .h (.i .i64)], [], [(.sl (.i .i64)), (.sl (.i .i64)), (.sl (.sl (.i .i64))), (.sl (.sl (.i .i64))), (.i .i64), (.i .i64)], Tup r_ref17_Nth.c, m_ref17_Nth N, fun y _ k => k (resG T (mkPS 34 r_ref17_Nth y) Try.f32.results.toList) (keepH' [] (mkPS 34 r_ref17_Nth y).h), false, true⟩
theorem m_ref17_Nth_eq (N : Nat) (t : (List Int)) (t2 : (List Int)) (t3 : (List (List Int))) (marks : (List (List Int))) (v2 : Int) (n : Int) : m_ref17_Nth (N + 1) (t, t2, t3, marks, v2, n) = obind (m_ref17_First N (t, (t2, (t3, (marks, (v2, (1000 : Int))))))) fun z1 =>
  cond (!(decide (z1.1 = (0 : Int))))
   (some ((0 : Int), z1.1))
   (cond (decide (n < (0 : Int)))
     (some ((0 : Int), (6 : Int)))
     (cond (decide ((((List.length z1.2) : Nat) : Int) ≤ n))
       (some ((0 : Int), (6 : Int)))
       (obind (nthI z1.2 n) fun z2 =>
        obind (nthI z1.2 n) fun z3 =>
        some (z3, (0 : Int))))) := by kernel_rfl
theorem c_ref17_Nth_ok (N : Nat) : (c_ref17_Nth N).ok Try.prog := exF_ok (T := T) (CT := ct_ref17_Nth) (N := N) (fun M => ⟨tOk, (ctAll_cons (c_ref17_First_ok M) ctAll_nil), mixed⟩) Try.func32 (by kernel_rfl) (by kernel_rfl) p_ref17_Nth [.ag [.h (.sl (.i .i64)), .h (.sl (.i .i64)), .h (.sl (.sl (.i .i64)))], .h (.sl (.sl (.i .i64))), .h (.i .i64), .h (.i .i64)] [] [(.sl (.i .i64)), (.sl (.i .i64)), (.sl (.sl (.i .i64))), (.sl (.sl (.i .i64))), (.i .i64), (.i .i64)] r_ref17_Nth false true [] (by kernel_rfl) (fun y => by kernel_rfl) (fun _ => ⟨rfl, rfl⟩) (fun y => by kernel_rfl) (m_ref17_Nth N) (fun x => by kernel_rfl)
/-! archipelago/archipelagoref17.Rank -/
noncomputable def ct_ref17_Rank (N : Nat) : List Ctr := [c_ref17_Right N, c_ref16_Between N]
def p_ref17_Rank : Pl := .z
def r_ref17_Rank : PS := ⟨[(8, .h (.i .i64)), (9, .h (.i .i64))], [], [(.i .i64), (.i .i64)]⟩
noncomputable def m_ref17_Rank (N : Nat) : (List Int) × (List Int) × (List (List Int)) × (List (List Int)) × Int × Int → Option (Int × Int) := exF T ct_ref17_Rank N (bodyOf Try.f34) 28 p_ref17_Rank [.ag [.h (.sl (.i .i64)), .h (.sl (.i .i64)), .h (.sl (.sl (.i .i64)))], .h (.sl (.sl (.i .i64))), .h (.i .i64), .h (.i .i64)] [] [(.sl (.i .i64)), (.sl (.i .i64)), (.sl (.sl (.i .i64))), (.sl (.sl (.i .i64))), (.i .i64), (.i .i64)] r_ref17_Rank
noncomputable def c_ref17_Rank (N : Nat) : Ctr := ⟨34, [.ag [.h (.sl (.i .i64)), .h (.sl (.i .i64)), .h (.sl (.sl (.i .i64)))], .h (.sl (.sl (.i .i64))), .h (.i .i64), .h (.i .i64)], [], [(.sl (.i .i64)), (.sl (.i .i64)), (.sl (.sl (.i .i64))), (.sl (.sl (.i .i64))), (.i .i64), (.i .i64)], Tup r_ref17_Rank.c, m_ref17_Rank N, fun y _ k => k (resG T (mkPS 28 r_ref17_Rank y) Try.f34.results.toList) (keepH' [] (mkPS 28 r_ref17_Rank y).h), false, true⟩
theorem m_ref17_Rank_eq (N : Nat) (t : (List Int)) (t2 : (List Int)) (t3 : (List (List Int))) (marks : (List (List Int))) (v2 : Int) (place : Int) : m_ref17_Rank (N + 1) (t, t2, t3, marks, v2, place) = obind (m_ref17_Right N (t, (t2, (t3, marks)))) fun z1 =>
  cond (!z1)
   (some ((0 : Int), (1 : Int)))
   (obind (m_ref16_Between N (t, (t2, (t3, (marks, (v2, place)))))) fun z2 =>
    some (z2.1, z2.2.2)) := by kernel_rfl
theorem c_ref17_Rank_ok (N : Nat) : (c_ref17_Rank N).ok Try.prog := exF_ok (T := T) (CT := ct_ref17_Rank) (N := N) (fun M => ⟨tOk, (ctAll_cons (c_ref17_Right_ok M) (ctAll_cons (c_ref16_Between_ok M) ctAll_nil)), mixed⟩) Try.func34 (by kernel_rfl) (by kernel_rfl) p_ref17_Rank [.ag [.h (.sl (.i .i64)), .h (.sl (.i .i64)), .h (.sl (.sl (.i .i64)))], .h (.sl (.sl (.i .i64))), .h (.i .i64), .h (.i .i64)] [] [(.sl (.i .i64)), (.sl (.i .i64)), (.sl (.sl (.i .i64))), (.sl (.sl (.i .i64))), (.i .i64), (.i .i64)] r_ref17_Rank false true [] (by kernel_rfl) (fun y => by kernel_rfl) (fun _ => ⟨rfl, rfl⟩) (fun y => by kernel_rfl) (m_ref17_Rank N) (fun x => by kernel_rfl)
/-! archipelago/archipelagolaw17.PickAnswers -/
noncomputable def ct_law17_PickAnswers (N : Nat) : List Ctr := [c_law17_alive N, c_law17_great N, c_pick_First N, c_ref17_First N, c_pick_Nth N, c_ref17_Nth N, c_pick_Rank N, c_ref17_Rank N, c_ref01_Ints N, c_pick_Right N, c_ref17_Right N]
def p_law17_PickAnswers : Pl := .z
def r_law17_PickAnswers : PS := ⟨[(6, .h .b)], [], [.b]⟩
noncomputable def m_law17_PickAnswers (N : Nat) : (List Int) × (List Int) × (List (List Int)) × (List (List Int)) × Int × Int → Option (Bool) := exF T ct_law17_PickAnswers N (bodyOf Try.f8) 121 p_law17_PickAnswers [.ag [.h (.sl (.i .i64)), .h (.sl (.i .i64)), .h (.sl (.sl (.i .i64)))], .h (.sl (.sl (.i .i64))), .ag [.h (.i .i64), .h (.i .i64)]] [] [(.sl (.i .i64)), (.sl (.i .i64)), (.sl (.sl (.i .i64))), (.sl (.sl (.i .i64))), (.i .i64), (.i .i64)] r_law17_PickAnswers
noncomputable def c_law17_PickAnswers (N : Nat) : Ctr := ⟨8, [.ag [.h (.sl (.i .i64)), .h (.sl (.i .i64)), .h (.sl (.sl (.i .i64)))], .h (.sl (.sl (.i .i64))), .ag [.h (.i .i64), .h (.i .i64)]], [], [(.sl (.i .i64)), (.sl (.i .i64)), (.sl (.sl (.i .i64))), (.sl (.sl (.i .i64))), (.i .i64), (.i .i64)], Tup r_law17_PickAnswers.c, m_law17_PickAnswers N, fun y _ k => k (resG T (mkPS 121 r_law17_PickAnswers y) Try.f8.results.toList) (keepH' [] (mkPS 121 r_law17_PickAnswers y).h), false, true⟩
theorem m_law17_PickAnswers_eq (N : Nat) (t : (List Int)) (t2 : (List Int)) (t3 : (List (List Int))) (marks : (List (List Int))) (two : Int) (two2 : Int) : m_law17_PickAnswers (N + 1) (t, t2, t3, marks, two, two2) = obind (m_law17_alive N ()) fun z1 =>
  cond (!z1)
   (some false)
   (obind (m_law17_great N (t, (t2, (t3, marks)))) fun z2 =>
    cond z2
     (some true)
     (obind (m_pick_First N (t, (t2, (t3, (marks, (two, two2)))))) fun z3 =>
      obind (m_ref17_First N (t, (t2, (t3, (marks, (two, two2)))))) fun z4 =>
      obind (m_pick_Nth N (t, (t2, (t3, (marks, (two, two2)))))) fun z5 =>
      obind (m_ref17_Nth N (t, (t2, (t3, (marks, (two, two2)))))) fun z6 =>
      obind (m_pick_Rank N (t, (t2, (t3, (marks, (two, two2)))))) fun z7 =>
      obind (m_ref17_Rank N (t, (t2, (t3, (marks, (two, two2)))))) fun z8 =>
      obind (m_ref01_Ints N (z3.2, z4.2)) fun z9 =>
      cond z9
       (cond (decide (z3.1 = z4.1))
         (cond (decide (z5.1 = z6.1))
           (cond (decide (z5.2 = z6.2))
             (cond (decide (z7.1 = z8.1))
               (cond (decide (z7.2 = z8.2))
                 (obind (m_pick_Right N (t, (t2, (t3, marks)))) fun z10 =>
                  obind (m_ref17_Right N (t, (t2, (t3, marks)))) fun z11 =>
                  some (z10 == z11))
                 (some false))
               (some false))
             (some false))
           (some false))
         (some false))
       (some false))) := by kernel_rfl
theorem c_law17_PickAnswers_ok (N : Nat) : (c_law17_PickAnswers N).ok Try.prog := exF_ok (T := T) (CT := ct_law17_PickAnswers) (N := N) (fun M => ⟨tOk, (ctAll_cons (c_law17_alive_ok M) (ctAll_cons (c_law17_great_ok M) (ctAll_cons (c_pick_First_ok M) (ctAll_cons (c_ref17_First_ok M) (ctAll_cons (c_pick_Nth_ok M) (ctAll_cons (c_ref17_Nth_ok M) (ctAll_cons (c_pick_Rank_ok M) (ctAll_cons (c_ref17_Rank_ok M) (ctAll_cons (c_ref01_Ints_ok M) (ctAll_cons (c_pick_Right_ok M) (ctAll_cons (c_ref17_Right_ok M) ctAll_nil))))))))))), mixed⟩) Try.func8 (by kernel_rfl) (by kernel_rfl) p_law17_PickAnswers [.ag [.h (.sl (.i .i64)), .h (.sl (.i .i64)), .h (.sl (.sl (.i .i64)))], .h (.sl (.sl (.i .i64))), .ag [.h (.i .i64), .h (.i .i64)]] [] [(.sl (.i .i64)), (.sl (.i .i64)), (.sl (.sl (.i .i64))), (.sl (.sl (.i .i64))), (.i .i64), (.i .i64)] r_law17_PickAnswers false true [] (by kernel_rfl) (fun y => by kernel_rfl) (fun _ => ⟨rfl, rfl⟩) (fun y => by kernel_rfl) (m_law17_PickAnswers N) (fun x => by kernel_rfl)
/-! archipelago/archipelagoref17.Mark -/
noncomputable def ct_ref17_Mark (N : Nat) : List Ctr := [c_ref16_Build_o N]
def i_ref17_Mark_1 : PS := ⟨[(1, .h (.sl .b)), (2, .k (.pt 900 0)), (6, .k (.ow 901)), (7, .h (.i .i64))], [(900, .box 25 [.h (.sl (.i .i64)), .h (.sl (.i .i64)), .h (.sl (.sl (.i .i64)))]), (901, .arr 3 (.i .i64) true)], [(.sl .b), (.i .i64), (.sl (.i .i64)), (.sl (.i .i64)), (.sl (.sl (.i .i64))), (.sl (.i .i64))]⟩
def o_ref17_Mark_1 : List (Exit × PS) := [((.exit 0), ⟨[(2, .k (.pt 900 0)), (6, .k (.ow 901))], [(900, .box 25 [.h (.sl (.i .i64)), .h (.sl (.i .i64)), .h (.sl (.sl (.i .i64)))]), (901, .arr 3 (.i .i64) true)], [(.sl (.i .i64)), (.sl (.i .i64)), (.sl (.sl (.i .i64))), (.sl (.i .i64))]⟩)]
def p_ref17_Mark_1 : Pl := .z
noncomputable def l_ref17_Mark_1 (N : Nat) : Nat → (List Bool) × Int × (List Int) × (List Int) × (List (List Int)) × (List Int) → Option ((List Int) × (List Int) × (List (List Int)) × (List Int)) := loopF (exC T (ct_ref17_Mark N) N (codeAt [1, 1, 0, 1, 0, 0] (bodyOf Try.f38))) 29 i_ref17_Mark_1 o_ref17_Mark_1 p_ref17_Mark_1
def p_ref17_Mark : Pl := (.n .z (.n .z (.n (.n .z (.n (.loop i_ref17_Mark_1 o_ref17_Mark_1 p_ref17_Mark_1) .z)) .z)))
def r_ref17_Mark : PS := ⟨[(4, .k (.ow 900)), (5, .h (.i .i64))], [(900, .arr 22 (.sl (.i .i64)) true)], [(.i .i64), (.sl (.sl (.i .i64)))]⟩
noncomputable def m_ref17_Mark (N : Nat) : (List Int) × (List Int) × (List (List Int)) × (List Bool) → Option (Int × (List (List Int))) := exF T ct_ref17_Mark N (bodyOf Try.f38) 29 p_ref17_Mark [.ag [.h (.sl (.i .i64)), .h (.sl (.i .i64)), .h (.sl (.sl (.i .i64)))], .h (.sl .b)] [] [(.sl (.i .i64)), (.sl (.i .i64)), (.sl (.sl (.i .i64))), (.sl .b)] r_ref17_Mark
noncomputable def c_ref17_Mark (N : Nat) : Ctr := ⟨38, [.ag [.h (.sl (.i .i64)), .h (.sl (.i .i64)), .h (.sl (.sl (.i .i64)))], .h (.sl .b)], [], [(.sl (.i .i64)), (.sl (.i .i64)), (.sl (.sl (.i .i64))), (.sl .b)], Tup r_ref17_Mark.c, m_ref17_Mark N, fun y _ k => k (resG T (mkPS 29 r_ref17_Mark y) Try.f38.results.toList) (keepH' [900] (mkPS 29 r_ref17_Mark y).h), true, false⟩
theorem l_ref17_Mark_1_z (N : Nat) (v : (List Bool) × Int × (List Int) × (List Int) × (List (List Int)) × (List Int)) : l_ref17_Mark_1 N 0 v = none := by kernel_rfl
theorem l_ref17_Mark_1_s (N m : Nat) (marked : (List Bool)) (i : Int) (t : (List Int)) (t2 : (List Int)) (t3 : (List (List Int))) (w : (List Int)) : l_ref17_Mark_1 N (m + 1) (marked, i, t, t2, t3, w) = cond (decide (i < (((List.length marked) : Nat) : Int)))
   (obind (nthI marked i) fun z1 =>
    cond z1
     (obind (nthI w i) fun z2 =>
      obind (nthI w i) fun z3 =>
      (l_ref17_Mark_1 N m (marked, ((IntKind.wrap .i64 (i + (1 : Int))), (t, (t2, (t3, (List.set w (Int.toNat i) (1 : Int)))))))))
     ((l_ref17_Mark_1 N m (marked, ((IntKind.wrap .i64 (i + (1 : Int))), (t, (t2, (t3, w))))))))
   (some (t, (t2, (t3, w)))) := by kernel_rfl
theorem m_ref17_Mark_eq (N : Nat) (t : (List Int)) (t2 : (List Int)) (t3 : (List (List Int))) (marked : (List Bool)) : m_ref17_Mark (N + 1) (t, t2, t3, marked) = obind (makI (((List.length marked) : Nat) : Int) (8 : Nat)) fun z1 =>
  obind (l_ref17_Mark_1 N N (marked, ((0 : Int), (t, (t2, (t3, (List.replicate z1 (0 : Int)))))))) fun z2 =>
  obind (m_ref16_Build_o N (z2.1, (z2.2.1, (z2.2.2.1, z2.2.2.2)))) fun z3 =>
  some (z3.1, z3.2.1) := by kernel_rfl
theorem c_ref17_Mark_ok (N : Nat) : (c_ref17_Mark N).ok Try.prog := exF_ok (T := T) (CT := ct_ref17_Mark) (N := N) (fun M => ⟨tOk, (ctAll_cons (c_ref16_Build_o_ok M) ctAll_nil), mixed⟩) Try.func38 (by kernel_rfl) (by kernel_rfl) p_ref17_Mark [.ag [.h (.sl (.i .i64)), .h (.sl (.i .i64)), .h (.sl (.sl (.i .i64)))], .h (.sl .b)] [] [(.sl (.i .i64)), (.sl (.i .i64)), (.sl (.sl (.i .i64))), (.sl .b)] r_ref17_Mark true false [900] (by kernel_rfl) (fun y => by kernel_rfl) (fun h => by cases h) (fun y => by kernel_rfl) (m_ref17_Mark N) (fun x => by kernel_rfl)
/-! archipelago/archipelagoref17.Turn -/
noncomputable def ct_ref17_Turn (N : Nat) : List Ctr := [c_ref17_Right N, c_ref16_Weights N, c_ref16_Build_o N]
def i_ref17_Turn_1 : PS := ⟨[(2, .h (.sl (.i .i64))), (3, .k (.pt 900 0)), (8, .k (.ow 901)), (9, .h (.i .i64))], [(900, .box 25 [.h (.sl (.i .i64)), .h (.sl (.i .i64)), .h (.sl (.sl (.i .i64)))]), (901, .arr 3 (.i .i64) true)], [(.sl (.i .i64)), (.i .i64), (.sl (.i .i64)), (.sl (.i .i64)), (.sl (.sl (.i .i64))), (.sl (.i .i64))]⟩
def o_ref17_Turn_1 : List (Exit × PS) := [((.exit 0), ⟨[(3, .k (.pt 900 0)), (8, .k (.ow 901))], [(900, .box 25 [.h (.sl (.i .i64)), .h (.sl (.i .i64)), .h (.sl (.sl (.i .i64)))]), (901, .arr 3 (.i .i64) true)], [(.sl (.i .i64)), (.sl (.i .i64)), (.sl (.sl (.i .i64))), (.sl (.i .i64))]⟩), (.ret, ⟨[(6, .k .nil), (7, .h (.i .i64))], [], [(.i .i64)]⟩)]
def p_ref17_Turn_1 : Pl := .z
noncomputable def l_ref17_Turn_1 (N : Nat) : Nat → (List Int) × Int × (List Int) × (List Int) × (List (List Int)) × (List Int) → Option (((List Int) × (List Int) × (List (List Int)) × (List Int)) ⊕ (Int)) := loopF (exC T (ct_ref17_Turn N) N (codeAt [1, 1, 1, 0, 1, 0, 0] (bodyOf Try.f40))) 56 i_ref17_Turn_1 o_ref17_Turn_1 p_ref17_Turn_1
def p_ref17_Turn : Pl := (.n .z (.n .z (.n .z (.n (.n .z (.n (.loop i_ref17_Turn_1 o_ref17_Turn_1 p_ref17_Turn_1) .z)) .z))))
def r_ref17_Turn : PS := ⟨[(6, .k (.ow 900)), (7, .h (.i .i64))], [(900, .arr 22 (.sl (.i .i64)) true)], [(.i .i64), (.sl (.sl (.i .i64)))]⟩
noncomputable def m_ref17_Turn (N : Nat) : (List Int) × (List Int) × (List (List Int)) × (List (List Int)) × (List Int) → Option (Int × (List (List Int))) := exF T ct_ref17_Turn N (bodyOf Try.f40) 56 p_ref17_Turn [.ag [.h (.sl (.i .i64)), .h (.sl (.i .i64)), .h (.sl (.sl (.i .i64)))], .h (.sl (.sl (.i .i64))), .h (.sl (.i .i64))] [] [(.sl (.i .i64)), (.sl (.i .i64)), (.sl (.sl (.i .i64))), (.sl (.sl (.i .i64))), (.sl (.i .i64))] r_ref17_Turn
noncomputable def c_ref17_Turn (N : Nat) : Ctr := ⟨40, [.ag [.h (.sl (.i .i64)), .h (.sl (.i .i64)), .h (.sl (.sl (.i .i64)))], .h (.sl (.sl (.i .i64))), .h (.sl (.i .i64))], [], [(.sl (.i .i64)), (.sl (.i .i64)), (.sl (.sl (.i .i64))), (.sl (.sl (.i .i64))), (.sl (.i .i64))], Tup r_ref17_Turn.c, m_ref17_Turn N, fun y _ k => k (resG T (mkPS 56 r_ref17_Turn y) Try.f40.results.toList) (keepH' [900] (mkPS 56 r_ref17_Turn y).h), true, false⟩
theorem l_ref17_Turn_1_z (N : Nat) (v : (List Int) × Int × (List Int) × (List Int) × (List (List Int)) × (List Int)) : l_ref17_Turn_1 N 0 v = none := by kernel_rfl
theorem l_ref17_Turn_1_s (N m : Nat) (places : (List Int)) (i : Int) (t : (List Int)) (t2 : (List Int)) (t3 : (List (List Int))) (w : (List Int)) : l_ref17_Turn_1 N (m + 1) (places, i, t, t2, t3, w) = cond (decide (i < (((List.length places) : Nat) : Int)))
   (obind (nthI places i) fun z1 =>
    cond (decide (z1 < (0 : Int)))
     (some (.inr (6 : Int)))
     (obind (nthI places i) fun z2 =>
      cond (decide ((((List.length w) : Nat) : Int) ≤ z2))
       (some (.inr (6 : Int)))
       (obind (nthI places i) fun z3 =>
        obind (nthI places i) fun z4 =>
        obind (nthI w z4) fun z5 =>
        obind (nthI w z4) fun z6 =>
        obind (nthI w z3) fun z7 =>
        obind (nthI w z3) fun z8 =>
        (l_ref17_Turn_1 N m (places, ((IntKind.wrap .i64 (i + (1 : Int))), (t, (t2, (t3, (List.set w (Int.toNat z3) (IntKind.wrap .i64 ((1 : Int) - z6))))))))))))
   (some (.inl (t, (t2, (t3, w))))) := by kernel_rfl
theorem m_ref17_Turn_eq (N : Nat) (t : (List Int)) (t2 : (List Int)) (t3 : (List (List Int))) (marks : (List (List Int))) (places : (List Int)) : m_ref17_Turn (N + 1) (t, t2, t3, marks, places) = obind (m_ref17_Right N (t, (t2, (t3, marks)))) fun z1 =>
  cond (!z1)
   (some ((1 : Int), []))
   (obind (m_ref16_Weights N (t, (t2, (t3, marks)))) fun z2 =>
    obind (l_ref17_Turn_1 N N (places, ((0 : Int), (t, (t2, (t3, z2)))))) fun z3 =>
    (match z3 with
    | .inl zy4 => obind (m_ref16_Build_o N (zy4.1, (zy4.2.1, (zy4.2.2.1, zy4.2.2.2)))) fun z5 =>
      some (z5.1, z5.2.1)
    | .inr zy6 => some (zy6, []))) := by kernel_rfl
theorem c_ref17_Turn_ok (N : Nat) : (c_ref17_Turn N).ok Try.prog := exF_ok (T := T) (CT := ct_ref17_Turn) (N := N) (fun M => ⟨tOk, (ctAll_cons (c_ref17_Right_ok M) (ctAll_cons (c_ref16_Weights_ok M) (ctAll_cons (c_ref16_Build_o_ok M) ctAll_nil))), mixed⟩) Try.func40 (by kernel_rfl) (by kernel_rfl) p_ref17_Turn [.ag [.h (.sl (.i .i64)), .h (.sl (.i .i64)), .h (.sl (.sl (.i .i64)))], .h (.sl (.sl (.i .i64))), .h (.sl (.i .i64))] [] [(.sl (.i .i64)), (.sl (.i .i64)), (.sl (.sl (.i .i64))), (.sl (.sl (.i .i64))), (.sl (.i .i64))] r_ref17_Turn true false [900] (by kernel_rfl) (fun y => by kernel_rfl) (fun h => by cases h) (fun y => by kernel_rfl) (m_ref17_Turn N) (fun x => by kernel_rfl)
/-! archipelago/archipelagolaw17.PickTurns -/
noncomputable def ct_law17_PickTurns (N : Nat) : List Ctr := [c_law17_alive N, c_ref14_Great N, c_pick_Mark N, c_ref17_Mark N, c_pick_Turn N, c_ref17_Turn N, c_ref14_Lists N]
def p_law17_PickTurns : Pl := .z
def r_law17_PickTurns : PS := ⟨[(6, .h .b)], [], [.b]⟩
noncomputable def m_law17_PickTurns (N : Nat) : (List Int) × (List Int) × (List (List Int)) × (List Bool) × (List Int) → Option (Bool) := exF T ct_law17_PickTurns N (bodyOf Try.f9) 93 p_law17_PickTurns [.ag [.h (.sl (.i .i64)), .h (.sl (.i .i64)), .h (.sl (.sl (.i .i64)))], .h (.sl .b), .h (.sl (.i .i64))] [] [(.sl (.i .i64)), (.sl (.i .i64)), (.sl (.sl (.i .i64))), (.sl .b), (.sl (.i .i64))] r_law17_PickTurns
noncomputable def c_law17_PickTurns (N : Nat) : Ctr := ⟨9, [.ag [.h (.sl (.i .i64)), .h (.sl (.i .i64)), .h (.sl (.sl (.i .i64)))], .h (.sl .b), .h (.sl (.i .i64))], [], [(.sl (.i .i64)), (.sl (.i .i64)), (.sl (.sl (.i .i64))), (.sl .b), (.sl (.i .i64))], Tup r_law17_PickTurns.c, m_law17_PickTurns N, fun y _ k => k (resG T (mkPS 93 r_law17_PickTurns y) Try.f9.results.toList) (keepH' [] (mkPS 93 r_law17_PickTurns y).h), false, true⟩
theorem m_law17_PickTurns_eq (N : Nat) (t : (List Int)) (t2 : (List Int)) (t3 : (List (List Int))) (marked : (List Bool)) (places : (List Int)) : m_law17_PickTurns (N + 1) (t, t2, t3, marked, places) = obind (m_law17_alive N ()) fun z1 =>
  cond (!z1)
   (some false)
   (obind (m_ref14_Great N (t, (t2, (t3, (200 : Int))))) fun z2 =>
    cond z2
     (some true)
     (cond (decide ((200 : Int) < (((List.length marked) : Nat) : Int)))
       (some true)
       (cond (decide ((50 : Int) < (((List.length places) : Nat) : Int)))
         (some true)
         (obind (m_pick_Mark N (t, (t2, (t3, marked)))) fun z3 =>
          obind (m_ref17_Mark N (t, (t2, (t3, marked)))) fun z4 =>
          obind (m_pick_Turn N (t, (t2, (t3, (z4.2, places))))) fun z5 =>
          obind (m_ref17_Turn N (t, (t2, (t3, (z4.2, places))))) fun z6 =>
          obind (m_ref14_Lists N (z3.2, z4.2)) fun z7 =>
          cond (!z7)
           (some false)
           (cond (!(decide (z3.1 = z4.1)))
             (some false)
             (obind (m_ref14_Lists N (z5.2, z6.2)) fun z8 =>
              cond (!z8)
               (some false)
               (cond (!(decide (z5.1 = z6.1)))
                 (some false)
                 (cond (!(decide (z5.1 = (0 : Int))))
                   (some true)
                   (obind (m_pick_Turn N (t, (t2, (t3, (z5.2, places))))) fun z9 =>
                    cond (decide (z9.1 = (0 : Int)))
                     (obind (m_ref14_Lists N (z9.2, z4.2)) fun z10 =>
                      some z10)
                     (some false)))))))))) := by kernel_rfl
theorem c_law17_PickTurns_ok (N : Nat) : (c_law17_PickTurns N).ok Try.prog := exF_ok (T := T) (CT := ct_law17_PickTurns) (N := N) (fun M => ⟨tOk, (ctAll_cons (c_law17_alive_ok M) (ctAll_cons (c_ref14_Great_ok M) (ctAll_cons (c_pick_Mark_ok M) (ctAll_cons (c_ref17_Mark_ok M) (ctAll_cons (c_pick_Turn_ok M) (ctAll_cons (c_ref17_Turn_ok M) (ctAll_cons (c_ref14_Lists_ok M) ctAll_nil))))))), mixed⟩) Try.func9 (by kernel_rfl) (by kernel_rfl) p_law17_PickTurns [.ag [.h (.sl (.i .i64)), .h (.sl (.i .i64)), .h (.sl (.sl (.i .i64)))], .h (.sl .b), .h (.sl (.i .i64))] [] [(.sl (.i .i64)), (.sl (.i .i64)), (.sl (.sl (.i .i64))), (.sl .b), (.sl (.i .i64))] r_law17_PickTurns false true [] (by kernel_rfl) (fun y => by kernel_rfl) (fun _ => ⟨rfl, rfl⟩) (fun y => by kernel_rfl) (m_law17_PickTurns N) (fun x => by kernel_rfl)
/-! archipelago/archipelagolaw17.PickInTurn -/
noncomputable def ct_law17_PickInTurn (N : Nat) : List Ctr := [c_law17_alive N, c_ref14_Great N, c_pick_Mark N, c_pick_First N, c_ref01_Ints N, c_pick_Nth N, c_pick_Rank N]
def i_law17_PickInTurn_2 : PS := ⟨[(1, .h (.sl .b)), (9, .h (.i .i64)), (14, .k (.ow 900)), (22, .h (.i .i64)), (23, .h (.i .i64)), (24, .h (.i .i64))], [(900, .arr 3 (.i .i64) false)], [(.sl .b), (.i .i64), (.i .i64), (.i .i64), (.i .i64), (.sl (.i .i64))]⟩
def o_law17_PickInTurn_2 : List (Exit × PS) := [((.exit 2), ⟨[(14, .k (.ow 900)), (22, .h (.i .i64)), (23, .h (.i .i64))], [(900, .arr 3 (.i .i64) false)], [(.i .i64), (.i .i64), (.sl (.i .i64))]⟩)]
def p_law17_PickInTurn_2 : Pl := .z
noncomputable def l_law17_PickInTurn_2 (N : Nat) : Nat → (List Bool) × Int × Int × Int × Int × (List Int) → Option (Int × Int × (List Int)) := loopF (exC T (ct_law17_PickInTurn N) N (codeAt [1, 1, 1, 1, 1, 1, 1, 1, 1, 1, 1, 1, 1, 0, 1, 0, 0] (bodyOf Try.f10))) 184 i_law17_PickInTurn_2 o_law17_PickInTurn_2 p_law17_PickInTurn_2
def i_law17_PickInTurn_1 : PS := ⟨[(1, .h (.sl .b)), (3, .k (.pt 900 0)), (7, .k (.ow 901)), (9, .h (.i .i64)), (10, .h (.i .i64)), (14, .k (.ow 902)), (16, .h (.i .i64))], [(900, .box 25 [.h (.sl (.i .i64)), .h (.sl (.i .i64)), .h (.sl (.sl (.i .i64)))]), (901, .arr 22 (.sl (.i .i64)) true), (902, .arr 3 (.i .i64) false)], [(.sl .b), (.i .i64), (.i .i64), (.i .i64), (.sl (.i .i64)), (.sl (.i .i64)), (.sl (.sl (.i .i64))), (.sl (.sl (.i .i64))), (.sl (.i .i64))]⟩
def o_law17_PickInTurn_1 : List (Exit × PS) := [((.exit 0), ⟨[(1, .h (.sl .b)), (3, .k (.pt 900 0)), (7, .k (.ow 901)), (9, .h (.i .i64)), (10, .h (.i .i64)), (14, .k (.ow 902))], [(900, .box 25 [.h (.sl (.i .i64)), .h (.sl (.i .i64)), .h (.sl (.sl (.i .i64)))]), (901, .arr 22 (.sl (.i .i64)) true), (902, .arr 3 (.i .i64) false)], [(.sl .b), (.i .i64), (.i .i64), (.sl (.i .i64)), (.sl (.i .i64)), (.sl (.sl (.i .i64))), (.sl (.sl (.i .i64))), (.sl (.i .i64))]⟩), (.ret, ⟨[(6, .h .b)], [], [.b]⟩)]
def p_law17_PickInTurn_1 : Pl := .z
noncomputable def l_law17_PickInTurn_1 (N : Nat) : Nat → (List Bool) × Int × Int × Int × (List Int) × (List Int) × (List (List Int)) × (List (List Int)) × (List Int) → Option (((List Bool) × Int × Int × (List Int) × (List Int) × (List (List Int)) × (List (List Int)) × (List Int)) ⊕ (Bool)) := loopF (exC T (ct_law17_PickInTurn N) N (codeAt [1, 1, 1, 1, 1, 1, 1, 1, 1, 1, 0, 1, 0, 0] (bodyOf Try.f10))) 184 i_law17_PickInTurn_1 o_law17_PickInTurn_1 p_law17_PickInTurn_1
def p_law17_PickInTurn : Pl := (.n .z (.n .z (.n .z (.n .z (.n .z (.n .z (.n .z (.n .z (.n .z (.n .z (.n (.n .z (.n (.loop i_law17_PickInTurn_1 o_law17_PickInTurn_1 p_law17_PickInTurn_1) .z)) (.n .z (.n .z (.n (.n .z (.n (.loop i_law17_PickInTurn_2 o_law17_PickInTurn_2 p_law17_PickInTurn_2) .z)) .z))))))))))))))
def r_law17_PickInTurn : PS := ⟨[(6, .h .b)], [], [.b]⟩
noncomputable def m_law17_PickInTurn (N : Nat) : (List Int) × (List Int) × (List (List Int)) × (List Bool) × Int × Int → Option (Bool) := exF T ct_law17_PickInTurn N (bodyOf Try.f10) 184 p_law17_PickInTurn [.ag [.h (.sl (.i .i64)), .h (.sl (.i .i64)), .h (.sl (.sl (.i .i64)))], .h (.sl .b), .ag [.h (.i .u8), .h (.i .u8)]] [] [(.sl (.i .i64)), (.sl (.i .i64)), (.sl (.sl (.i .i64))), (.sl .b), (.i .u8), (.i .u8)] r_law17_PickInTurn
noncomputable def c_law17_PickInTurn (N : Nat) : Ctr := ⟨10, [.ag [.h (.sl (.i .i64)), .h (.sl (.i .i64)), .h (.sl (.sl (.i .i64)))], .h (.sl .b), .ag [.h (.i .u8), .h (.i .u8)]], [], [(.sl (.i .i64)), (.sl (.i .i64)), (.sl (.sl (.i .i64))), (.sl .b), (.i .u8), (.i .u8)], Tup r_law17_PickInTurn.c, m_law17_PickInTurn N, fun y _ k => k (resG T (mkPS 184 r_law17_PickInTurn y) Try.f10.results.toList) (keepH' [] (mkPS 184 r_law17_PickInTurn y).h), false, true⟩
theorem l_law17_PickInTurn_2_z (N : Nat) (v : (List Bool) × Int × Int × Int × Int × (List Int)) : l_law17_PickInTurn_2 N 0 v = none := by kernel_rfl
theorem l_law17_PickInTurn_2_s (N m : Nat) (marked : (List Bool)) (n : Int) (h : Int) (times : Int) (i : Int) (all : (List Int)) : l_law17_PickInTurn_2 N (m + 1) (marked, n, h, times, i, all) = cond (decide (i < n))
   (obind (nthI marked i) fun z1 =>
    cond z1
     ((l_law17_PickInTurn_2 N m (marked, (n, (h, ((IntKind.wrap .i64 (times + (1 : Int))), ((IntKind.wrap .i64 (i + (1 : Int))), all)))))))
     ((l_law17_PickInTurn_2 N m (marked, (n, (h, (times, ((IntKind.wrap .i64 (i + (1 : Int))), all))))))))
   (some (h, (times, all))) := by kernel_rfl
theorem l_law17_PickInTurn_1_z (N : Nat) (v : (List Bool) × Int × Int × Int × (List Int) × (List Int) × (List (List Int)) × (List (List Int)) × (List Int)) : l_law17_PickInTurn_1 N 0 v = none := by kernel_rfl
theorem l_law17_PickInTurn_1_s (N m : Nat) (marked : (List Bool)) (n : Int) (v10 : Int) (i : Int) (t : (List Int)) (t2 : (List Int)) (t3 : (List (List Int))) (v7 : (List (List Int))) (all : (List Int)) : l_law17_PickInTurn_1 N (m + 1) (marked, n, v10, i, t, t2, t3, v7, all) = cond (decide (i < (((List.length all) : Nat) : Int)))
   (obind (m_pick_Nth N (t, (t2, (t3, (v7, (v10, i)))))) fun z1 =>
    obind (nthI all i) fun z2 =>
    obind (nthI all i) fun z3 =>
    obind (m_pick_Rank N (t, (t2, (t3, (v7, (v10, z3)))))) fun z4 =>
    cond (!(decide (z1.2 = (0 : Int))))
     (some (.inr false))
     (cond (!(decide (z4.2 = (0 : Int))))
       (some (.inr false))
       (obind (nthI all i) fun z5 =>
        obind (nthI all i) fun z6 =>
        cond (!(decide (z1.1 = z6)))
         (some (.inr false))
         (cond (!(decide (z4.1 = i)))
           (some (.inr false))
           (cond (decide (z1.1 < (0 : Int)))
             (some (.inr false))
             (cond (decide (n ≤ z1.1))
               (some (.inr false))
               (obind (nthI marked z1.1) fun z7 =>
                cond (!z7)
                 (some (.inr false))
                 ((l_law17_PickInTurn_1 N m (marked, (n, (v10, ((IntKind.wrap .i64 (i + (1 : Int))), (t, (t2, (t3, (v7, all)))))))))))))))))
   (some (.inl (marked, (n, (v10, (t, (t2, (t3, (v7, all))))))))) := by kernel_rfl
theorem m_law17_PickInTurn_eq (N : Nat) (t : (List Int)) (t2 : (List Int)) (t3 : (List (List Int))) (marked : (List Bool)) (two : Int) (two2 : Int) : m_law17_PickInTurn (N + 1) (t, t2, t3, marked, two, two2) = obind (m_law17_alive N ()) fun z1 =>
  cond (!z1)
   (some false)
   (obind (m_ref14_Great N (t, (t2, (t3, (200 : Int))))) fun z2 =>
    cond z2
     (some true)
     (cond (decide ((200 : Int) < (((List.length marked) : Nat) : Int)))
       (some true)
       (obind (m_pick_Mark N (t, (t2, (t3, marked)))) fun z3 =>
        cond (!(decide (z3.1 = (0 : Int))))
         (some (decide ((((List.length z3.2) : Nat) : Int) = (0 : Int))))
         (obind (remI (IntKind.wrap .i64 two) (((List.length t) : Nat) : Int)) fun z4 =>
          obind (m_pick_First N (t, (t2, (t3, (z3.2, (z4, (IntKind.wrap .i64 two2))))))) fun z5 =>
          obind (m_pick_First N (t, (t2, (t3, (z3.2, (z4, (((List.length t) : Nat) : Int))))))) fun z6 =>
          cond (!(decide (z5.1 = (0 : Int))))
           (some false)
           (cond (!(decide (z6.1 = (0 : Int))))
             (some false)
             (cond (!(decide ((((List.length z5.2) : Nat) : Int) = (if ((((List.length z6.2) : Nat) : Int) < (IntKind.wrap .i64 two2)) then (((List.length z6.2) : Nat) : Int) else (IntKind.wrap .i64 two2)))))
               (some false)
               (obind (subI z6.2 (0 : Int) (((List.length z5.2) : Nat) : Int)) fun z7 =>
                obind (m_ref01_Ints N (z5.2, z7)) fun z8 =>
                cond (!z8)
                 (some false)
                 (obind (l_law17_PickInTurn_1 N N (marked, ((((List.length t) : Nat) : Int), (z4, ((0 : Int), (t, (t2, (t3, (z3.2, z6.2))))))))) fun z9 =>
                  (match z9 with
                  | .inl zy10 => obind (m_pick_Nth N (zy10.2.2.2.1, (zy10.2.2.2.2.1, (zy10.2.2.2.2.2.1, (zy10.2.2.2.2.2.2.1, (zy10.2.2.1, (((List.length zy10.2.2.2.2.2.2.2) : Nat) : Int))))))) fun z11 =>
                    obind (l_law17_PickInTurn_2 N N (zy10.1, (zy10.2.1, (z11.2, ((0 : Int), ((0 : Int), zy10.2.2.2.2.2.2.2)))))) fun z12 =>
                    cond (decide (z12.1 = (6 : Int)))
                     (some (decide (z12.2.1 = (((List.length z12.2.2) : Nat) : Int))))
                     (some false)
                  | .inr zy13 => some zy13))))))))) := by kernel_rfl
theorem c_law17_PickInTurn_ok (N : Nat) : (c_law17_PickInTurn N).ok Try.prog := exF_ok (T := T) (CT := ct_law17_PickInTurn) (N := N) (fun M => ⟨tOk, (ctAll_cons (c_law17_alive_ok M) (ctAll_cons (c_ref14_Great_ok M) (ctAll_cons (c_pick_Mark_ok M) (ctAll_cons (c_pick_First_ok M) (ctAll_cons (c_ref01_Ints_ok M) (ctAll_cons (c_pick_Nth_ok M) (ctAll_cons (c_pick_Rank_ok M) ctAll_nil))))))), mixed⟩) Try.func10 (by kernel_rfl) (by kernel_rfl) p_law17_PickInTurn [.ag [.h (.sl (.i .i64)), .h (.sl (.i .i64)), .h (.sl (.sl (.i .i64)))], .h (.sl .b), .ag [.h (.i .u8), .h (.i .u8)]] [] [(.sl (.i .i64)), (.sl (.i .i64)), (.sl (.sl (.i .i64))), (.sl .b), (.i .u8), (.i .u8)] r_law17_PickInTurn false true [] (by kernel_rfl) (fun y => by kernel_rfl) (fun _ => ⟨rfl, rfl⟩) (fun y => by kernel_rfl) (m_law17_PickInTurn N) (fun x => by kernel_rfl)
/-! archipelago/archipelagolaw17.PickAll -/
noncomputable def ct_law17_PickAll (N : Nat) : List Ctr := [c_law17_alive N, c_ref14_Great N, c_pick_Mark N, c_pick_Right N, c_pick_Rank N, c_pick_Turn N, c_ref16_Total N]
def i_law17_PickAll_1 : PS := ⟨[(1, .h (.sl .b)), (3, .k (.pt 900 0)), (10, .h (.i .i64)), (11, .h (.i .i64)), (12, .h (.i .i64)), (14, .h (.i .i64)), (16, .k (.ow 901)), (18, .h (.i .i64)), (20, .h (.i .i64)), (22, .h (.i .i64))], [(900, .box 25 [.h (.sl (.i .i64)), .h (.sl (.i .i64)), .h (.sl (.sl (.i .i64)))]), (901, .arr 22 (.sl (.i .i64)) true)], [(.sl .b), (.i .i64), (.i .i64), (.i .i64), (.i .i64), (.i .i64), (.i .i64), (.i .i64), (.sl (.i .i64)), (.sl (.i .i64)), (.sl (.sl (.i .i64))), (.sl (.sl (.i .i64)))]⟩
def o_law17_PickAll_1 : List (Exit × PS) := [(.normal, ⟨[(3, .k (.pt 900 0)), (10, .h (.i .i64)), (11, .h (.i .i64)), (12, .h (.i .i64)), (14, .h (.i .i64)), (16, .k (.ow 901)), (18, .h (.i .i64)), (20, .h (.i .i64)), (22, .h (.i .i64))], [(900, .box 25 [.h (.sl (.i .i64)), .h (.sl (.i .i64)), .h (.sl (.sl (.i .i64)))]), (901, .arr 22 (.sl (.i .i64)) true)], [(.i .i64), (.i .i64), (.i .i64), (.i .i64), (.i .i64), (.i .i64), (.i .i64), (.sl (.i .i64)), (.sl (.i .i64)), (.sl (.sl (.i .i64))), (.sl (.sl (.i .i64)))]⟩)]
def p_law17_PickAll_1 : Pl := .z
noncomputable def l_law17_PickAll_1 (N : Nat) : Nat → (List Bool) × Int × Int × Int × Int × Int × Int × Int × (List Int) × (List Int) × (List (List Int)) × (List (List Int)) → Option (Int × Int × Int × Int × Int × Int × Int × (List Int) × (List Int) × (List (List Int)) × (List (List Int))) := joinF (exC0 T (ct_law17_PickAll N) N (codeAt [1, 1, 1, 1, 1, 1, 1, 1, 1, 1, 1, 1, 1, 1, 0] (bodyOf Try.f11))) 150 i_law17_PickAll_1 o_law17_PickAll_1 p_law17_PickAll_1
def p_law17_PickAll : Pl := (.n .z (.n .z (.n .z (.n .z (.n .z (.n .z (.n .z (.n .z (.n .z (.n .z (.n .z (.n .z (.n .z (.n .z (.n (.join i_law17_PickAll_1 o_law17_PickAll_1 p_law17_PickAll_1) .z)))))))))))))))
def r_law17_PickAll : PS := ⟨[(6, .h .b)], [], [.b]⟩
noncomputable def m_law17_PickAll (N : Nat) : (List Int) × (List Int) × (List (List Int)) × (List Bool) × Int × Int → Option (Bool) := exF T ct_law17_PickAll N (bodyOf Try.f11) 150 p_law17_PickAll [.ag [.h (.sl (.i .i64)), .h (.sl (.i .i64)), .h (.sl (.sl (.i .i64)))], .h (.sl .b), .ag [.h (.i .u8), .h (.i .u8)]] [] [(.sl (.i .i64)), (.sl (.i .i64)), (.sl (.sl (.i .i64))), (.sl .b), (.i .u8), (.i .u8)] r_law17_PickAll
noncomputable def c_law17_PickAll (N : Nat) : Ctr := ⟨11, [.ag [.h (.sl (.i .i64)), .h (.sl (.i .i64)), .h (.sl (.sl (.i .i64)))], .h (.sl .b), .ag [.h (.i .u8), .h (.i .u8)]], [], [(.sl (.i .i64)), (.sl (.i .i64)), (.sl (.sl (.i .i64))), (.sl .b), (.i .u8), (.i .u8)], Tup r_law17_PickAll.c, m_law17_PickAll N, fun y _ k => k (resG T (mkPS 150 r_law17_PickAll y) Try.f11.results.toList) (keepH' [] (mkPS 150 r_law17_PickAll y).h), false, true⟩
theorem l_law17_PickAll_1_s (N m : Nat) (marked : (List Bool)) (a : Int) (b : Int) (x : Int) (y : Int) (all : Int) (more : Int) (step : Int) (t : (List Int)) (t2 : (List Int)) (t3 : (List (List Int))) (u : (List (List Int))) : l_law17_PickAll_1 N (m + 1) (marked, a, b, x, y, all, more, step, t, t2, t3, u) = obind (nthI marked a) fun z1 =>
  cond z1
   (some (a, (b, (x, (y, (all, (more, ((-(1 : Int)), (t, (t2, (t3, u)))))))))))
   (some (a, (b, (x, (y, (all, (more, (step, (t, (t2, (t3, u))))))))))) := by kernel_rfl
theorem m_law17_PickAll_eq (N : Nat) (t : (List Int)) (t2 : (List Int)) (t3 : (List (List Int))) (marked : (List Bool)) (two : Int) (two2 : Int) : m_law17_PickAll (N + 1) (t, t2, t3, marked, two, two2) = obind (m_law17_alive N ()) fun z1 =>
  cond (!z1)
   (some false)
   (obind (m_ref14_Great N (t, (t2, (t3, (200 : Int))))) fun z2 =>
    cond z2
     (some true)
     (cond (decide ((200 : Int) < (((List.length marked) : Nat) : Int)))
       (some true)
       (obind (m_pick_Mark N (t, (t2, (t3, marked)))) fun z3 =>
        cond (!(decide (z3.1 = (0 : Int))))
         (obind (m_pick_Right N (t, (t2, (t3, z3.2)))) fun z4 =>
          some (!z4))
         (obind (remI (IntKind.wrap .i64 two) (((List.length t) : Nat) : Int)) fun z5 =>
          obind (remI (IntKind.wrap .i64 two2) (((List.length t) : Nat) : Int)) fun z6 =>
          obind (m_pick_Rank N (t, (t2, (t3, (z3.2, (z5, z6)))))) fun z7 =>
          obind (m_pick_Rank N (t, (t2, (t3, (z3.2, (z6, z5)))))) fun z8 =>
          obind (m_pick_Turn N (t, (t2, (t3, (z3.2, [z5]))))) fun z9 =>
          obind (m_ref16_Total N (t, (t2, (t3, z3.2)))) fun z10 =>
          obind (m_ref16_Total N (t, (t2, (t3, z9.2)))) fun z11 =>
          cond (!(decide (z7.2 = (0 : Int))))
           (some false)
           (cond (!(decide (z8.2 = (0 : Int))))
             (some false)
             (cond (!(decide (z9.1 = (0 : Int))))
               (some false)
               (cond (!(decide (z10.2 = (0 : Int))))
                 (some false)
                 (cond (!(decide (z11.2 = (0 : Int))))
                   (some false)
                   (obind (l_law17_PickAll_1 N N (marked, (z5, (z6, (z7.1, (z8.1, (z10.1, (z11.1, ((1 : Int), (t, (t2, (t3, z9.2)))))))))))) fun z12 =>
                    cond (decide (z12.1 = z12.2.1))
                     (cond (decide (z12.2.2.1 = (0 : Int)))
                       (cond (decide (z12.2.2.2.1 = (0 : Int)))
                         (cond (decide (z12.2.2.2.2.2.1 = (IntKind.wrap .i64 (z12.2.2.2.2.1 + z12.2.2.2.2.2.2.1))))
                           (obind (m_pick_Right N (z12.2.2.2.2.2.2.2.1, (z12.2.2.2.2.2.2.2.2.1, (z12.2.2.2.2.2.2.2.2.2.1, z12.2.2.2.2.2.2.2.2.2.2)))) fun z13 =>
                            some z13)
                           (some false))
                         (cond (!(decide (z12.1 = z12.2.1)))
                           (cond (decide ((IntKind.wrap .i64 (z12.2.2.1 + z12.2.2.2.1)) = z12.2.2.2.2.1))
                             (cond (decide (z12.2.2.2.2.2.1 = (IntKind.wrap .i64 (z12.2.2.2.2.1 + z12.2.2.2.2.2.2.1))))
                               (obind (m_pick_Right N (z12.2.2.2.2.2.2.2.1, (z12.2.2.2.2.2.2.2.2.1, (z12.2.2.2.2.2.2.2.2.2.1, z12.2.2.2.2.2.2.2.2.2.2)))) fun z14 =>
                                some z14)
                               (some false))
                             (some false))
                           (some false)))
                       (cond (!(decide (z12.1 = z12.2.1)))
                         (cond (decide ((IntKind.wrap .i64 (z12.2.2.1 + z12.2.2.2.1)) = z12.2.2.2.2.1))
                           (cond (decide (z12.2.2.2.2.2.1 = (IntKind.wrap .i64 (z12.2.2.2.2.1 + z12.2.2.2.2.2.2.1))))
                             (obind (m_pick_Right N (z12.2.2.2.2.2.2.2.1, (z12.2.2.2.2.2.2.2.2.1, (z12.2.2.2.2.2.2.2.2.2.1, z12.2.2.2.2.2.2.2.2.2.2)))) fun z15 =>
                              some z15)
                             (some false))
                           (some false))
                         (some false)))
                     (cond (!(decide (z12.1 = z12.2.1)))
                       (cond (decide ((IntKind.wrap .i64 (z12.2.2.1 + z12.2.2.2.1)) = z12.2.2.2.2.1))
                         (cond (decide (z12.2.2.2.2.2.1 = (IntKind.wrap .i64 (z12.2.2.2.2.1 + z12.2.2.2.2.2.2.1))))
                           (obind (m_pick_Right N (z12.2.2.2.2.2.2.2.1, (z12.2.2.2.2.2.2.2.2.1, (z12.2.2.2.2.2.2.2.2.2.1, z12.2.2.2.2.2.2.2.2.2.2)))) fun z16 =>
                            some z16)
                           (some false))
                         (some false))
                       (some false))))))))))) := by kernel_rfl
theorem c_law17_PickAll_ok (N : Nat) : (c_law17_PickAll N).ok Try.prog := exF_ok (T := T) (CT := ct_law17_PickAll) (N := N) (fun M => ⟨tOk, (ctAll_cons (c_law17_alive_ok M) (ctAll_cons (c_ref14_Great_ok M) (ctAll_cons (c_pick_Mark_ok M) (ctAll_cons (c_pick_Right_ok M) (ctAll_cons (c_pick_Rank_ok M) (ctAll_cons (c_pick_Turn_ok M) (ctAll_cons (c_ref16_Total_ok M) ctAll_nil))))))), mixed⟩) Try.func11 (by kernel_rfl) (by kernel_rfl) p_law17_PickAll [.ag [.h (.sl (.i .i64)), .h (.sl (.i .i64)), .h (.sl (.sl (.i .i64)))], .h (.sl .b), .ag [.h (.i .u8), .h (.i .u8)]] [] [(.sl (.i .i64)), (.sl (.i .i64)), (.sl (.sl (.i .i64))), (.sl .b), (.i .u8), (.i .u8)] r_law17_PickAll false true [] (by kernel_rfl) (fun y => by kernel_rfl) (fun _ => ⟨rfl, rfl⟩) (fun y => by kernel_rfl) (m_law17_PickAll N) (fun x => by kernel_rfl)
end Go.Proofs.Ytiblkkkgajklfaa
