/- What the reckoned functions compute, as plain recursions that the kernel can run (printed by wip/run/genrun.py). -/
import Derived.Test.YtmgjokihljeemaaFns
import Derived.Test.YtmgjokihljeemaaFc
set_option linter.unusedVariables false
set_option linter.unusedSimpArgs false
set_option maxRecDepth 100000
namespace Go.Proofs.Ytmgjokihljeemaa
open Go Go.RowKit
noncomputable section
def tl_ref18_Make_1 (N : Nat) : Nat → Int × Int × Int × Int × (List (List Int)) → Option (Int × Int × (List (List Int)))
  | 0, _ => none
  | m + 1, v => (fcP fcI (fcP fcI (fcP fcI (fcP fcI (fcL (fcL fcI)))))).f v fun (n, v, v2, f, v902) => cond (decide (v < n))
   (obind (appI (24 : Nat) v902 [[v]]) fun z1 =>
    (tl_ref18_Make_1 N m (n, ((IntKind.wrap .i64 (v + (1 : Int))), (v2, (f, z1))))))
   (some (v2, (f, v902)))
theorem q_l_ref18_Make_1 (N : Nat) : ∀ (m : Nat) (v : Int × Int × Int × Int × (List (List Int))), l_ref18_Make_1 N m v = tl_ref18_Make_1 N m v
  | 0, _ => by kernel_rfl
  | m + 1, (n, v, v2, f, v902) => by
    rw [l_ref18_Make_1_s, tl_ref18_Make_1, (fcP fcI (fcP fcI (fcP fcI (fcP fcI (fcL (fcL fcI)))))).ok]
    all_goals first | rfl | (simp only [bitI_eq, dem_D, q_l_ref18_Make_1 N m]; done) | (simp only [bitI_eq, dem_D, q_l_ref18_Make_1 N m]; rfl)
def t_ref18_Make : Nat → Int → Option (Int × Int × (List (List Int)))
  | 0, _ => none
  | N + 1, v => fcI.f v fun (n) => cond (decide (n < (1 : Int)))
   (some ((1 : Int), ((0 : Int), [])))
   (cond (decide ((64 : Int) < n))
     (some ((1 : Int), ((0 : Int), [])))
     (obind (tl_ref18_Make_1 N N (n, ((0 : Int), ((0 : Int), (n, []))))) fun z1 =>
      some ((0 : Int), (z1.2.1, z1.2.2))))
theorem q_m_ref18_Make : ∀ (N : Nat) (v : Int), m_ref18_Make N v = t_ref18_Make N v
  | 0, _ => by kernel_rfl
  | N + 1, (n) => by
    rw [m_ref18_Make_eq, t_ref18_Make, fcI.ok]
    all_goals first | rfl | (simp only [q_l_ref18_Make_1, bitI_eq, dem_D]; done) | (simp only [q_l_ref18_Make_1, bitI_eq, dem_D]; rfl)
def tl_ref13_Place_1 (N : Nat) : Nat → (List Int) × Int × Int → Option ((Unit) ⊕ (Int))
  | 0, _ => none
  | m + 1, v => (fcP (fcL fcI) (fcP fcI fcI)).f v fun (l, token, i) => cond (decide (i < (((List.length l) : Nat) : Int)))
   (obind (nthI l i) fun z1 =>
    cond (decide (z1 = token))
     (some (.inr i))
     ((tl_ref13_Place_1 N m (l, (token, (IntKind.wrap .i64 (i + (1 : Int))))))))
   (some (.inl ()))
theorem q_l_ref13_Place_1 (N : Nat) : ∀ (m : Nat) (v : (List Int) × Int × Int), l_ref13_Place_1 N m v = tl_ref13_Place_1 N m v
  | 0, _ => by kernel_rfl
  | m + 1, (l, token, i) => by
    rw [l_ref13_Place_1_s, tl_ref13_Place_1, (fcP (fcL fcI) (fcP fcI fcI)).ok]
    all_goals first | rfl | (simp only [bitI_eq, dem_D, q_l_ref13_Place_1 N m]; done) | (simp only [bitI_eq, dem_D, q_l_ref13_Place_1 N m]; rfl)
def t_ref13_Place : Nat → (List Int) × Int → Option (Int)
  | 0, _ => none
  | N + 1, v => (fcP (fcL fcI) fcI).f v fun (l, token) => obind (tl_ref13_Place_1 N N (l, (token, (0 : Int)))) fun z1 =>
  (match z1 with
  | .inl zy2 => some (-(1 : Int))
  | .inr zy3 => some zy3)
theorem q_m_ref13_Place : ∀ (N : Nat) (v : (List Int) × Int), m_ref13_Place N v = t_ref13_Place N v
  | 0, _ => by kernel_rfl
  | N + 1, (l, token) => by
    rw [m_ref13_Place_eq, t_ref13_Place, (fcP (fcL fcI) fcI).ok]
    all_goals first | rfl | (simp only [q_l_ref13_Place_1, bitI_eq, dem_D]; done) | (simp only [q_l_ref13_Place_1, bitI_eq, dem_D]; rfl)
def tl_ref13_Right_1 (N : Nat) : Nat → (List Int) × Int → Option ((Unit) ⊕ (Bool))
  | 0, _ => none
  | m + 1, v => (fcP (fcL fcI) fcI).f v fun (l, i) => cond (decide (i < (((List.length l) : Nat) : Int)))
   (obind (nthI l i) fun z1 =>
    cond (decide (z1 < (0 : Int)))
     (some (.inr false))
     (obind (nthI l i) fun z2 =>
      cond (decide ((10000 : Int) < z2))
       (some (.inr false))
       (obind (subI l (0 : Int) i) fun z3 =>
        obind (nthI l i) fun z4 =>
        obind (t_ref13_Place N (z3, z4)) fun z5 =>
        cond (decide ((0 : Int) ≤ z5))
         (some (.inr false))
         ((tl_ref13_Right_1 N m (l, (IntKind.wrap .i64 (i + (1 : Int)))))))))
   (some (.inl ()))
theorem q_l_ref13_Right_1 (N : Nat) : ∀ (m : Nat) (v : (List Int) × Int), l_ref13_Right_1 N m v = tl_ref13_Right_1 N m v
  | 0, _ => by kernel_rfl
  | m + 1, (l, i) => by
    rw [l_ref13_Right_1_s, tl_ref13_Right_1, (fcP (fcL fcI) fcI).ok]
    all_goals first | rfl | (simp only [q_m_ref13_Place, bitI_eq, dem_D, q_l_ref13_Right_1 N m]; done) | (simp only [q_m_ref13_Place, bitI_eq, dem_D, q_l_ref13_Right_1 N m]; rfl)
def t_ref13_Right : Nat → (List Int) → Option (Bool)
  | 0, _ => none
  | N + 1, v => (fcL fcI).f v fun (l) => cond (decide ((1000 : Int) < (((List.length l) : Nat) : Int)))
   (some false)
   (obind (tl_ref13_Right_1 N N (l, (0 : Int))) fun z1 =>
    (match z1 with
    | .inl zy2 => some true
    | .inr zy3 => some zy3))
theorem q_m_ref13_Right : ∀ (N : Nat) (v : (List Int)), m_ref13_Right N v = t_ref13_Right N v
  | 0, _ => by kernel_rfl
  | N + 1, (l) => by
    rw [m_ref13_Right_eq, t_ref13_Right, (fcL fcI).ok]
    all_goals first | rfl | (simp only [q_l_ref13_Right_1, bitI_eq, dem_D]; done) | (simp only [q_l_ref13_Right_1, bitI_eq, dem_D]; rfl)
def t_ref18_in : Nat → Int × Int → Option (Bool)
  | 0, _ => none
  | N + 1, v => (fcP fcI fcI).f v fun (n, v) => cond (decide ((1 : Int) ≤ n))
   (cond (decide (n ≤ (64 : Int)))
     (cond (decide ((0 : Int) ≤ v))
       (some (decide (v < n)))
       (some false))
     (some false))
   (some false)
theorem q_m_ref18_in : ∀ (N : Nat) (v : Int × Int), m_ref18_in N v = t_ref18_in N v
  | 0, _ => by kernel_rfl
  | N + 1, (n, v) => by
    rw [m_ref18_in_eq, t_ref18_in, (fcP fcI fcI).ok]
    all_goals first | rfl | (simp only [bitI_eq, dem_D]; done) | (simp only [bitI_eq, dem_D]; rfl)
def t_ref18_Token : Nat → Int × Int → Option (Int × Int × Bool × Bool)
  | 0, _ => none
  | N + 1, v => (fcP fcI fcI).f v fun (n, token) => obind (t_ref18_in N (n, token)) fun z1 =>
  cond z1
   (some (token, ((0 : Int), (false, true))))
   (cond (decide (n < (1 : Int)))
     (some ((0 : Int), ((0 : Int), (false, false))))
     (cond (decide ((64 : Int) < n))
       (some ((0 : Int), ((0 : Int), (false, false))))
       (cond (decide (token < n))
         (some ((0 : Int), ((0 : Int), (false, false))))
         (cond (decide ((IntKind.wrap .i64 (n + (IntKind.wrap .i64 (n * n)))) ≤ token))
           (some ((0 : Int), ((0 : Int), (false, false))))
           (obind (quoI (IntKind.wrap .i64 (token - n)) n) fun z2 =>
            obind (remI (IntKind.wrap .i64 (token - n)) n) fun z3 =>
            cond (decide ((IntKind.wrap .i64 z2) = z3))
             (some ((0 : Int), ((0 : Int), (false, false))))
             (some ((IntKind.wrap .i64 z2), (z3, (true, true)))))))))
theorem q_m_ref18_Token : ∀ (N : Nat) (v : Int × Int), m_ref18_Token N v = t_ref18_Token N v
  | 0, _ => by kernel_rfl
  | N + 1, (n, token) => by
    rw [m_ref18_Token_eq, t_ref18_Token, (fcP fcI fcI).ok]
    all_goals first | rfl | (simp only [q_m_ref18_in, bitI_eq, dem_D]; done) | (simp only [q_m_ref18_in, bitI_eq, dem_D]; rfl)
def t_ref18_Arc : Nat → Int × Int × Int → Option (Int)
  | 0, _ => none
  | N + 1, v => (fcP fcI (fcP fcI fcI)).f v fun (n, u, v) => obind (t_ref18_in N (n, u)) fun z1 =>
  cond (!z1)
   (some (-(1 : Int)))
   (obind (t_ref18_in N (n, v)) fun z2 =>
    cond (!z2)
     (some (-(1 : Int)))
     (cond (decide (u = v))
       (some (-(1 : Int)))
       (some (IntKind.wrap .i64 ((IntKind.wrap .i64 (n + (IntKind.wrap .i64 (u * n)))) + v)))))
theorem q_m_ref18_Arc : ∀ (N : Nat) (v : Int × Int × Int), m_ref18_Arc N v = t_ref18_Arc N v
  | 0, _ => by kernel_rfl
  | N + 1, (n, u, v) => by
    rw [m_ref18_Arc_eq, t_ref18_Arc, (fcP fcI (fcP fcI fcI)).ok]
    all_goals first | rfl | (simp only [q_m_ref18_in, bitI_eq, dem_D]; done) | (simp only [q_m_ref18_in, bitI_eq, dem_D]; rfl)
def t_ref18_stands : Nat → Int × Int × Int → Option (Bool)
  | 0, _ => none
  | N + 1, v => (fcP fcI (fcP fcI fcI)).f v fun (n, token, u) => obind (t_ref18_Token N (n, token)) fun z1 =>
  cond z1.2.2.2
   (cond (!z1.2.2.1)
     (cond (decide (z1.1 = u))
       (some true)
       (cond z1.2.2.1
         (some (decide (z1.2.1 = u)))
         (some false)))
     (cond z1.2.2.1
       (some (decide (z1.2.1 = u)))
       (some false)))
   (some false)
theorem q_m_ref18_stands : ∀ (N : Nat) (v : Int × Int × Int), m_ref18_stands N v = t_ref18_stands N v
  | 0, _ => by kernel_rfl
  | N + 1, (n, token, u) => by
    rw [m_ref18_stands_eq, t_ref18_stands, (fcP fcI (fcP fcI fcI)).ok]
    all_goals first | rfl | (simp only [q_m_ref18_Token, bitI_eq, dem_D]; done) | (simp only [q_m_ref18_Token, bitI_eq, dem_D]; rfl)
def tl_ref18_tree_3 (N : Nat) : Nat → Int × Int × Int × (List Int) × (List Int) → Option (Int × Int × (List Int))
  | 0, _ => none
  | m + 1, v => (fcP fcI (fcP fcI (fcP fcI (fcP (fcL fcI) (fcL fcI))))).f v fun (n, i, k, l, v14) => cond (decide (k < (((List.length l) : Nat) : Int)))
   (obind (remI (IntKind.wrap .i64 (i + k)) (((List.length l) : Nat) : Int)) fun z1 =>
    obind (nthI l z1) fun z2 =>
    obind (nthI l z1) fun z3 =>
    obind (appI (8 : Nat) v14 [z3]) fun z4 =>
    (tl_ref18_tree_3 N m (n, (i, ((IntKind.wrap .i64 (k + (1 : Int))), (l, z4))))))
   (some (n, (i, v14)))
theorem q_l_ref18_tree_3 (N : Nat) : ∀ (m : Nat) (v : Int × Int × Int × (List Int) × (List Int)), l_ref18_tree_3 N m v = tl_ref18_tree_3 N m v
  | 0, _ => by kernel_rfl
  | m + 1, (n, i, k, l, v14) => by
    rw [l_ref18_tree_3_s, tl_ref18_tree_3, (fcP fcI (fcP fcI (fcP fcI (fcP (fcL fcI) (fcL fcI))))).ok]
    all_goals first | rfl | (simp only [bitI_eq, dem_D, q_l_ref18_tree_3 N m]; done) | (simp only [bitI_eq, dem_D, q_l_ref18_tree_3 N m]; rfl)
def tl_ref18_tree_2 (N : Nat) : Nat → Int × Bool × Int × (List Int) → Option (Int × Bool × (List Int))
  | 0, _ => none
  | m + 1, v => (fcP fcI (fcP fcB (fcP fcI (fcL fcI)))).f v fun (n, found, i, l) => cond (decide (i < (((List.length l) : Nat) : Int)))
   (cond (!found)
     (obind (nthI l i) fun z1 =>
      obind (nthI l i) fun z2 =>
      obind (remI (IntKind.wrap .i64 (i + (1 : Int))) (((List.length l) : Nat) : Int)) fun z3 =>
      obind (nthI l z3) fun z4 =>
      obind (nthI l z3) fun z5 =>
      obind (remI (IntKind.wrap .i64 (i + (2 : Int))) (((List.length l) : Nat) : Int)) fun z6 =>
      obind (nthI l z6) fun z7 =>
      obind (nthI l z6) fun z8 =>
      obind (t_ref18_Token N (n, z2)) fun z9 =>
      cond (decide ((4 : Int) ≤ (((List.length l) : Nat) : Int)))
       (cond z9.2.2.2
         (cond z9.2.2.1
           (cond (decide (z5 = z9.2.1))
             (obind (t_ref18_Arc N (n, (z9.2.1, z9.1))) fun z10 =>
              cond (decide (z8 = z10))
               (obind (remI (IntKind.wrap .i64 ((IntKind.wrap .i64 (i + (((List.length l) : Nat) : Int))) - (1 : Int))) (((List.length l) : Nat) : Int)) fun z11 =>
                obind (nthI l z11) fun z12 =>
                obind (nthI l z11) fun z13 =>
                obind (t_ref18_stands N (n, (z13, z9.1))) fun z14 =>
                cond z14
                 (obind (tl_ref18_tree_3 N N (n, (i, ((3 : Int), (l, []))))) fun z15 =>
                  (tl_ref18_tree_2 N m (z15.1, (true, ((IntKind.wrap .i64 (z15.2.1 + (1 : Int))), z15.2.2)))))
                 ((tl_ref18_tree_2 N m (n, (found, ((IntKind.wrap .i64 (i + (1 : Int))), l))))))
               ((tl_ref18_tree_2 N m (n, (found, ((IntKind.wrap .i64 (i + (1 : Int))), l))))))
             ((tl_ref18_tree_2 N m (n, (found, ((IntKind.wrap .i64 (i + (1 : Int))), l))))))
           ((tl_ref18_tree_2 N m (n, (found, ((IntKind.wrap .i64 (i + (1 : Int))), l))))))
         ((tl_ref18_tree_2 N m (n, (found, ((IntKind.wrap .i64 (i + (1 : Int))), l))))))
       ((tl_ref18_tree_2 N m (n, (found, ((IntKind.wrap .i64 (i + (1 : Int))), l))))))
     (some (n, (found, l))))
   (some (n, (found, l)))
theorem q_l_ref18_tree_2 (N : Nat) : ∀ (m : Nat) (v : Int × Bool × Int × (List Int)), l_ref18_tree_2 N m v = tl_ref18_tree_2 N m v
  | 0, _ => by kernel_rfl
  | m + 1, (n, found, i, l) => by
    rw [l_ref18_tree_2_s, tl_ref18_tree_2, (fcP fcI (fcP fcB (fcP fcI (fcL fcI)))).ok]
    all_goals first | rfl | (simp only [q_l_ref18_tree_3, q_m_ref18_Arc, q_m_ref18_Token, q_m_ref18_stands, bitI_eq, dem_D, q_l_ref18_tree_2 N m]; done) | (simp only [q_l_ref18_tree_3, q_m_ref18_Arc, q_m_ref18_Token, q_m_ref18_stands, bitI_eq, dem_D, q_l_ref18_tree_2 N m]; rfl)
def tl_ref18_tree_1 (N : Nat) : Nat → Int × (List Int) → Option ((Int × (List Int)) ⊕ (Bool))
  | 0, _ => none
  | m + 1, v => (fcP fcI (fcL fcI)).f v fun (n, l) => cond (decide ((1 : Int) < (((List.length l) : Nat) : Int)))
   (obind (tl_ref18_tree_2 N N (n, (false, ((0 : Int), l)))) fun z1 =>
    cond (!z1.2.1)
     (some (.inr false))
     ((tl_ref18_tree_1 N m (z1.1, z1.2.2))))
   (some (.inl (n, l)))
theorem q_l_ref18_tree_1 (N : Nat) : ∀ (m : Nat) (v : Int × (List Int)), l_ref18_tree_1 N m v = tl_ref18_tree_1 N m v
  | 0, _ => by kernel_rfl
  | m + 1, (n, l) => by
    rw [l_ref18_tree_1_s, tl_ref18_tree_1, (fcP fcI (fcL fcI)).ok]
    all_goals first | rfl | (simp only [q_l_ref18_tree_2, bitI_eq, dem_D, q_l_ref18_tree_1 N m]; done) | (simp only [q_l_ref18_tree_2, bitI_eq, dem_D, q_l_ref18_tree_1 N m]; rfl)
def t_ref18_tree : Nat → Int × (List Int) → Option (Bool)
  | 0, _ => none
  | N + 1, v => (fcP fcI (fcL fcI)).f v fun (n, l) => obind (appI (8 : Nat) [] l) fun z1 =>
  obind (tl_ref18_tree_1 N N (n, z1)) fun z2 =>
  (match z2 with
  | .inl zy3 => cond (decide ((((List.length zy3.2) : Nat) : Int) = (1 : Int)))
     (obind (nthI zy3.2 (0 : Int)) fun z4 =>
      obind (nthI zy3.2 (0 : Int)) fun z5 =>
      obind (t_ref18_in N (zy3.1, z5)) fun z6 =>
      some z6)
     (some false)
  | .inr zy7 => some zy7)
theorem q_m_ref18_tree : ∀ (N : Nat) (v : Int × (List Int)), m_ref18_tree N v = t_ref18_tree N v
  | 0, _ => by kernel_rfl
  | N + 1, (n, l) => by
    rw [m_ref18_tree_eq, t_ref18_tree, (fcP fcI (fcL fcI)).ok]
    all_goals first | rfl | (simp only [q_l_ref18_tree_1, q_m_ref18_in, bitI_eq, dem_D]; done) | (simp only [q_l_ref18_tree_1, q_m_ref18_in, bitI_eq, dem_D]; rfl)
def t_ref13_From : Nat → (List Int) × Int → Option (Bool × (List Int))
  | 0, _ => none
  | N + 1, v => (fcP (fcL fcI) fcI).f v fun (l, token) => obind (t_ref13_Place N (l, token)) fun z1 =>
  obind (t_ref13_Right N l) fun z2 =>
  cond (!z2)
   (some (false, []))
   (cond (decide (z1 < (0 : Int)))
     (some (false, []))
     (obind (subI l z1 (((List.length l) : Nat) : Int)) fun z3 =>
      obind (appI (8 : Nat) [] z3) fun z4 =>
      obind (subI l (0 : Int) z1) fun z5 =>
      obind (appI (8 : Nat) z4 z5) fun z6 =>
      some (true, z6)))
theorem q_m_ref13_From : ∀ (N : Nat) (v : (List Int) × Int), m_ref13_From N v = t_ref13_From N v
  | 0, _ => by kernel_rfl
  | N + 1, (l, token) => by
    rw [m_ref13_From_eq, t_ref13_From, (fcP (fcL fcI) fcI).ok]
    all_goals first | rfl | (simp only [q_m_ref13_Place, q_m_ref13_Right, bitI_eq, dem_D]; done) | (simp only [q_m_ref13_Place, q_m_ref13_Right, bitI_eq, dem_D]; rfl)
def tl_ref13_Plain_1 (N : Nat) : Nat → (List Int) × Int × Int → Option ((List Int) × Int)
  | 0, _ => none
  | m + 1, v => (fcP (fcL fcI) (fcP fcI fcI)).f v fun (l, least, i) => cond (decide (i < (((List.length l) : Nat) : Int)))
   (obind (nthI l i) fun z1 =>
    (tl_ref13_Plain_1 N m (l, ((if (z1 < least) then z1 else least), (IntKind.wrap .i64 (i + (1 : Int)))))))
   (some (l, least))
theorem q_l_ref13_Plain_1 (N : Nat) : ∀ (m : Nat) (v : (List Int) × Int × Int), l_ref13_Plain_1 N m v = tl_ref13_Plain_1 N m v
  | 0, _ => by kernel_rfl
  | m + 1, (l, least, i) => by
    rw [l_ref13_Plain_1_s, tl_ref13_Plain_1, (fcP (fcL fcI) (fcP fcI fcI)).ok]
    all_goals first | rfl | (simp only [bitI_eq, dem_D, q_l_ref13_Plain_1 N m]; done) | (simp only [bitI_eq, dem_D, q_l_ref13_Plain_1 N m]; rfl)
def t_ref13_Plain : Nat → (List Int) → Option ((List Int))
  | 0, _ => none
  | N + 1, v => (fcL fcI).f v fun (l) => obind (t_ref13_Right N l) fun z1 =>
  cond (!z1)
   (some [])
   (cond (decide ((((List.length l) : Nat) : Int) = (0 : Int)))
     (some [])
     (obind (nthI l (0 : Int)) fun z2 =>
      obind (tl_ref13_Plain_1 N N (l, (z2, (0 : Int)))) fun z3 =>
      obind (t_ref13_From N (z3.1, z3.2)) fun z4 =>
      some z4.2))
theorem q_m_ref13_Plain : ∀ (N : Nat) (v : (List Int)), m_ref13_Plain N v = t_ref13_Plain N v
  | 0, _ => by kernel_rfl
  | N + 1, (l) => by
    rw [m_ref13_Plain_eq, t_ref13_Plain, (fcL fcI).ok]
    all_goals first | rfl | (simp only [q_l_ref13_Plain_1, q_m_ref13_From, q_m_ref13_Right, bitI_eq, dem_D]; done) | (simp only [q_l_ref13_Plain_1, q_m_ref13_From, q_m_ref13_Right, bitI_eq, dem_D]; rfl)
def tl_ref01_Ints_1 (N : Nat) : Nat → (List Int) × (List Int) × Int → Option ((Unit) ⊕ (Bool))
  | 0, _ => none
  | m + 1, v => (fcP (fcL fcI) (fcP (fcL fcI) fcI)).f v fun (a, b, i) => cond (decide (i < (((List.length a) : Nat) : Int)))
   (obind (nthI a i) fun z1 =>
    obind (nthI b i) fun z2 =>
    cond (!(decide (z1 = z2)))
     (some (.inr false))
     ((tl_ref01_Ints_1 N m (a, (b, (IntKind.wrap .i64 (i + (1 : Int))))))))
   (some (.inl ()))
theorem q_l_ref01_Ints_1 (N : Nat) : ∀ (m : Nat) (v : (List Int) × (List Int) × Int), l_ref01_Ints_1 N m v = tl_ref01_Ints_1 N m v
  | 0, _ => by kernel_rfl
  | m + 1, (a, b, i) => by
    rw [l_ref01_Ints_1_s, tl_ref01_Ints_1, (fcP (fcL fcI) (fcP (fcL fcI) fcI)).ok]
    all_goals first | rfl | (simp only [bitI_eq, dem_D, q_l_ref01_Ints_1 N m]; done) | (simp only [bitI_eq, dem_D, q_l_ref01_Ints_1 N m]; rfl)
def t_ref01_Ints : Nat → (List Int) × (List Int) → Option (Bool)
  | 0, _ => none
  | N + 1, v => (fcP (fcL fcI) (fcL fcI)).f v fun (a, b) => cond (!(decide ((((List.length a) : Nat) : Int) = (((List.length b) : Nat) : Int))))
   (some false)
   (obind (tl_ref01_Ints_1 N N (a, (b, (0 : Int)))) fun z1 =>
    (match z1 with
    | .inl zy2 => some true
    | .inr zy3 => some zy3))
theorem q_m_ref01_Ints : ∀ (N : Nat) (v : (List Int) × (List Int)), m_ref01_Ints N v = t_ref01_Ints N v
  | 0, _ => by kernel_rfl
  | N + 1, (a, b) => by
    rw [m_ref01_Ints_eq, t_ref01_Ints, (fcP (fcL fcI) (fcL fcI)).ok]
    all_goals first | rfl | (simp only [q_l_ref01_Ints_1, bitI_eq, dem_D]; done) | (simp only [q_l_ref01_Ints_1, bitI_eq, dem_D]; rfl)
def tl_ref14_Lists_1 (N : Nat) : Nat → (List (List Int)) × (List (List Int)) × Int → Option ((Unit) ⊕ (Bool))
  | 0, _ => none
  | m + 1, v => (fcP (fcL (fcL fcI)) (fcP (fcL (fcL fcI)) fcI)).f v fun (a, b, i) => cond (decide (i < (((List.length a) : Nat) : Int)))
   (obind (nthI a i) fun z1 =>
    obind (nthI b i) fun z2 =>
    obind (t_ref01_Ints N (z1, z2)) fun z3 =>
    cond (!z3)
     (some (.inr false))
     ((tl_ref14_Lists_1 N m (a, (b, (IntKind.wrap .i64 (i + (1 : Int))))))))
   (some (.inl ()))
theorem q_l_ref14_Lists_1 (N : Nat) : ∀ (m : Nat) (v : (List (List Int)) × (List (List Int)) × Int), l_ref14_Lists_1 N m v = tl_ref14_Lists_1 N m v
  | 0, _ => by kernel_rfl
  | m + 1, (a, b, i) => by
    rw [l_ref14_Lists_1_s, tl_ref14_Lists_1, (fcP (fcL (fcL fcI)) (fcP (fcL (fcL fcI)) fcI)).ok]
    all_goals first | rfl | (simp only [q_m_ref01_Ints, bitI_eq, dem_D, q_l_ref14_Lists_1 N m]; done) | (simp only [q_m_ref01_Ints, bitI_eq, dem_D, q_l_ref14_Lists_1 N m]; rfl)
def t_ref14_Lists : Nat → (List (List Int)) × (List (List Int)) → Option (Bool)
  | 0, _ => none
  | N + 1, v => (fcP (fcL (fcL fcI)) (fcL (fcL fcI))).f v fun (a, b) => cond (!(decide ((((List.length a) : Nat) : Int) = (((List.length b) : Nat) : Int))))
   (some false)
   (obind (tl_ref14_Lists_1 N N (a, (b, (0 : Int)))) fun z1 =>
    (match z1 with
    | .inl zy2 => some true
    | .inr zy3 => some zy3))
theorem q_m_ref14_Lists : ∀ (N : Nat) (v : (List (List Int)) × (List (List Int))), m_ref14_Lists N v = t_ref14_Lists N v
  | 0, _ => by kernel_rfl
  | N + 1, (a, b) => by
    rw [m_ref14_Lists_eq, t_ref14_Lists, (fcP (fcL (fcL fcI)) (fcL (fcL fcI))).ok]
    all_goals first | rfl | (simp only [q_l_ref14_Lists_1, bitI_eq, dem_D]; done) | (simp only [q_l_ref14_Lists_1, bitI_eq, dem_D]; rfl)
def tl_ref18_Right_2 (N : Nat) : Nat → Int × Int × Int × (List Int) × Int × Int × (List (List Int)) × (List Bool) → Option ((Int × Int × Int × Int × (List (List Int)) × (List Bool)) ⊕ (Bool))
  | 0, _ => none
  | m + 1, v => (fcP fcI (fcP fcI (fcP fcI (fcP (fcL fcI) (fcP fcI (fcP fcI (fcP (fcL (fcL fcI)) (fcL fcB)))))))).f v fun (last, all, i, l, k, f, f2, met) => cond (decide (k < (((List.length l) : Nat) : Int)))
   (obind (nthI l k) fun z1 =>
    cond (decide (z1 < f))
     (obind (nthI l k) fun z2 =>
      obind (nthI met z2) fun z3 =>
      obind (nthI met z2) fun z4 =>
      cond z4
       (some (.inr false))
       (obind (nthI l k) fun z5 =>
        obind (nthI met z5) fun z6 =>
        obind (nthI met z5) fun z7 =>
        (tl_ref18_Right_2 N m (last, ((IntKind.wrap .i64 (all + (1 : Int))), (i, (l, ((IntKind.wrap .i64 (k + (1 : Int))), (f, (f2, (List.set met (Int.toNat z5) true)))))))))))
     ((tl_ref18_Right_2 N m (last, (all, (i, (l, ((IntKind.wrap .i64 (k + (1 : Int))), (f, (f2, met))))))))))
   (some (.inl (last, (all, (i, (f, (f2, met)))))))
theorem q_l_ref18_Right_2 (N : Nat) : ∀ (m : Nat) (v : Int × Int × Int × (List Int) × Int × Int × (List (List Int)) × (List Bool)), l_ref18_Right_2 N m v = tl_ref18_Right_2 N m v
  | 0, _ => by kernel_rfl
  | m + 1, (last, all, i, l, k, f, f2, met) => by
    rw [l_ref18_Right_2_s, tl_ref18_Right_2, (fcP fcI (fcP fcI (fcP fcI (fcP (fcL fcI) (fcP fcI (fcP fcI (fcP (fcL (fcL fcI)) (fcL fcB)))))))).ok]
    all_goals first | rfl | (simp only [bitI_eq, dem_D, q_l_ref18_Right_2 N m]; done) | (simp only [bitI_eq, dem_D, q_l_ref18_Right_2 N m]; rfl)
def tl_ref18_Right_1 (N : Nat) : Nat → Int × Int × Int × Int × (List (List Int)) × (List Bool) → Option ((Int × Int × (List (List Int))) ⊕ (Bool))
  | 0, _ => none
  | m + 1, v => (fcP fcI (fcP fcI (fcP fcI (fcP fcI (fcP (fcL (fcL fcI)) (fcL fcB)))))).f v fun (last, all, i, f, f2, met) => cond (decide (i < (((List.length f2) : Nat) : Int)))
   (obind (nthI f2 i) fun z1 =>
    obind (t_ref13_Right N z1) fun z2 =>
    cond (!z2)
     (some (.inr false))
     (cond (decide ((((List.length z1) : Nat) : Int) = (0 : Int)))
       (some (.inr false))
       (obind (t_ref18_tree N (f, z1)) fun z3 =>
        cond (!z3)
         (some (.inr false))
         (obind (t_ref13_Plain N z1) fun z4 =>
          obind (t_ref14_Lists N ([z4], [z1])) fun z5 =>
          cond (!z5)
           (some (.inr false))
           (obind (nthI z1 (0 : Int)) fun z6 =>
            cond (decide (z6 ≤ last))
             (some (.inr false))
             (obind (nthI z1 (0 : Int)) fun z7 =>
              obind (tl_ref18_Right_2 N N (z7, (all, (i, (z1, ((0 : Int), (f, (f2, met)))))))) fun z8 =>
              (match z8 with
              | .inl zy9 => (tl_ref18_Right_1 N m (zy9.1, (zy9.2.1, ((IntKind.wrap .i64 (zy9.2.2.1 + (1 : Int))), (zy9.2.2.2.1, (zy9.2.2.2.2.1, zy9.2.2.2.2.2))))))
              | .inr zy10 => some (.inr zy10))))))))
   (some (.inl (all, (f, f2))))
theorem q_l_ref18_Right_1 (N : Nat) : ∀ (m : Nat) (v : Int × Int × Int × Int × (List (List Int)) × (List Bool)), l_ref18_Right_1 N m v = tl_ref18_Right_1 N m v
  | 0, _ => by kernel_rfl
  | m + 1, (last, all, i, f, f2, met) => by
    rw [l_ref18_Right_1_s, tl_ref18_Right_1, (fcP fcI (fcP fcI (fcP fcI (fcP fcI (fcP (fcL (fcL fcI)) (fcL fcB)))))).ok]
    all_goals first | rfl | (simp only [q_l_ref18_Right_2, q_m_ref13_Plain, q_m_ref13_Right, q_m_ref14_Lists, q_m_ref18_tree, bitI_eq, dem_D, q_l_ref18_Right_1 N m]; done) | (simp only [q_l_ref18_Right_2, q_m_ref13_Plain, q_m_ref13_Right, q_m_ref14_Lists, q_m_ref18_tree, bitI_eq, dem_D, q_l_ref18_Right_1 N m]; rfl)
def t_ref18_Right : Nat → Int × (List (List Int)) → Option (Bool)
  | 0, _ => none
  | N + 1, v => (fcP fcI (fcL (fcL fcI))).f v fun (f, f2) => cond (decide (f < (1 : Int)))
   (some false)
   (cond (decide ((64 : Int) < f))
     (some false)
     (cond (decide (f < (((List.length f2) : Nat) : Int)))
       (some false)
       (obind (makI f (1 : Nat)) fun z1 =>
        obind (tl_ref18_Right_1 N N ((-(1 : Int)), ((0 : Int), ((0 : Int), (f, (f2, (List.replicate z1 false))))))) fun z2 =>
        (match z2 with
        | .inl zy3 => some (decide (zy3.1 = zy3.2.1))
        | .inr zy4 => some zy4))))
theorem q_m_ref18_Right : ∀ (N : Nat) (v : Int × (List (List Int))), m_ref18_Right N v = t_ref18_Right N v
  | 0, _ => by kernel_rfl
  | N + 1, (f, f2) => by
    rw [m_ref18_Right_eq, t_ref18_Right, (fcP fcI (fcL (fcL fcI))).ok]
    all_goals first | rfl | (simp only [q_l_ref18_Right_1, bitI_eq, dem_D]; done) | (simp only [q_l_ref18_Right_1, bitI_eq, dem_D]; rfl)
def tl_ref19_there_1 (N : Nat) : Nat → (List (Int × Int)) × Int × Int × (List (List Int)) → Option ((Unit) ⊕ (Int))
  | 0, _ => none
  | m + 1, v => (fcP (fcL (fcP fcI fcI)) (fcP fcI (fcP fcI (fcL (fcL fcI))))).f v fun (l, i, f, f2) => cond (decide (i < (((List.length l) : Nat) : Int)))
   (obind (nthI l i) fun z1 =>
    cond (decide (z1.1 < (0 : Int)))
     (some (.inr (10 : Int)))
     (obind (nthI l i) fun z2 =>
      cond (decide (f ≤ z2.1))
       (some (.inr (10 : Int)))
       (obind (nthI l i) fun z3 =>
        cond (decide (z3.2 < (0 : Int)))
         (some (.inr (10 : Int)))
         (obind (nthI l i) fun z4 =>
          cond (decide (f ≤ z4.2))
           (some (.inr (10 : Int)))
           ((tl_ref19_there_1 N m (l, ((IntKind.wrap .i64 (i + (1 : Int))), (f, f2)))))))))
   (some (.inl ()))
theorem q_l_ref19_there_1 (N : Nat) : ∀ (m : Nat) (v : (List (Int × Int)) × Int × Int × (List (List Int))), l_ref19_there_1 N m v = tl_ref19_there_1 N m v
  | 0, _ => by kernel_rfl
  | m + 1, (l, i, f, f2) => by
    rw [l_ref19_there_1_s, tl_ref19_there_1, (fcP (fcL (fcP fcI fcI)) (fcP fcI (fcP fcI (fcL (fcL fcI))))).ok]
    all_goals first | rfl | (simp only [bitI_eq, dem_D, q_l_ref19_there_1 N m]; done) | (simp only [bitI_eq, dem_D, q_l_ref19_there_1 N m]; rfl)
def t_ref19_there : Nat → Int × (List (List Int)) × (List (Int × Int)) → Option (Int)
  | 0, _ => none
  | N + 1, v => (fcP fcI (fcP (fcL (fcL fcI)) (fcL (fcP fcI fcI)))).f v fun (f, f2, l) => obind (t_ref18_Right N (f, f2)) fun z1 =>
  cond (!z1)
   (some (1 : Int))
   (obind (tl_ref19_there_1 N N (l, ((0 : Int), (f, f2)))) fun z2 =>
    (match z2 with
    | .inl zy3 => some (0 : Int)
    | .inr zy4 => some zy4))
theorem q_m_ref19_there : ∀ (N : Nat) (v : Int × (List (List Int)) × (List (Int × Int))), m_ref19_there N v = t_ref19_there N v
  | 0, _ => by kernel_rfl
  | N + 1, (f, f2, l) => by
    rw [m_ref19_there_eq, t_ref19_there, (fcP fcI (fcP (fcL (fcL fcI)) (fcL (fcP fcI fcI)))).ok]
    all_goals first | rfl | (simp only [q_l_ref19_there_1, q_m_ref18_Right, bitI_eq, dem_D]; done) | (simp only [q_l_ref19_there_1, q_m_ref18_Right, bitI_eq, dem_D]; rfl)
def tl_ref18_place_1 (N : Nat) : Nat → Int × Int × Int × (List (List Int)) → Option ((Unit) ⊕ (Int))
  | 0, _ => none
  | m + 1, v => (fcP fcI (fcP fcI (fcP fcI (fcL (fcL fcI))))).f v fun (v, i, f, f2) => cond (decide (i < (((List.length f2) : Nat) : Int)))
   (obind (nthI f2 i) fun z1 =>
    obind (t_ref13_Place N (z1, v)) fun z2 =>
    cond (decide ((0 : Int) ≤ z2))
     (some (.inr i))
     ((tl_ref18_place_1 N m (v, ((IntKind.wrap .i64 (i + (1 : Int))), (f, f2))))))
   (some (.inl ()))
theorem q_l_ref18_place_1 (N : Nat) : ∀ (m : Nat) (v : Int × Int × Int × (List (List Int))), l_ref18_place_1 N m v = tl_ref18_place_1 N m v
  | 0, _ => by kernel_rfl
  | m + 1, (v, i, f, f2) => by
    rw [l_ref18_place_1_s, tl_ref18_place_1, (fcP fcI (fcP fcI (fcP fcI (fcL (fcL fcI))))).ok]
    all_goals first | rfl | (simp only [q_m_ref13_Place, bitI_eq, dem_D, q_l_ref18_place_1 N m]; done) | (simp only [q_m_ref13_Place, bitI_eq, dem_D, q_l_ref18_place_1 N m]; rfl)
def t_ref18_place : Nat → Int × (List (List Int)) × Int → Option (Int)
  | 0, _ => none
  | N + 1, v => (fcP fcI (fcP (fcL (fcL fcI)) fcI)).f v fun (f, f2, v) => obind (tl_ref18_place_1 N N (v, ((0 : Int), (f, f2)))) fun z1 =>
  (match z1 with
  | .inl zy2 => some (-(1 : Int))
  | .inr zy3 => some zy3)
theorem q_m_ref18_place : ∀ (N : Nat) (v : Int × (List (List Int)) × Int), m_ref18_place N v = t_ref18_place N v
  | 0, _ => by kernel_rfl
  | N + 1, (f, f2, v) => by
    rw [m_ref18_place_eq, t_ref18_place, (fcP fcI (fcP (fcL (fcL fcI)) fcI)).ok]
    all_goals first | rfl | (simp only [q_l_ref18_place_1, bitI_eq, dem_D]; done) | (simp only [q_l_ref18_place_1, bitI_eq, dem_D]; rfl)
def t_ref18_without : Nat → (List (List Int)) × Int → Option ((List (List Int)))
  | 0, _ => none
  | N + 1, v => (fcP (fcL (fcL fcI)) fcI).f v fun (l, i) => obind (subI l (0 : Int) i) fun z1 =>
  obind (appI (24 : Nat) [] z1) fun z2 =>
  obind (subI l (IntKind.wrap .i64 (i + (1 : Int))) (((List.length l) : Nat) : Int)) fun z3 =>
  obind (appI (24 : Nat) z2 z3) fun z4 =>
  some z4
theorem q_m_ref18_without : ∀ (N : Nat) (v : (List (List Int)) × Int), m_ref18_without N v = t_ref18_without N v
  | 0, _ => by kernel_rfl
  | N + 1, (l, i) => by
    rw [m_ref18_without_eq, t_ref18_without, (fcP (fcL (fcL fcI)) fcI).ok]
    all_goals first | rfl | (simp only [bitI_eq, dem_D]; done) | (simp only [bitI_eq, dem_D]; rfl)
def tl_ref18_put_1 (N : Nat) : Nat → (List (List Int)) × Int × (List Int) → Option ((List (List Int)) × Int × (List Int))
  | 0, _ => none
  | m + 1, v => (fcP (fcL (fcL fcI)) (fcP fcI (fcL fcI))).f v fun (l, k, r) => cond (decide (k < (((List.length l) : Nat) : Int)))
   (obind (nthI l k) fun z1 =>
    obind (nthI z1 (0 : Int)) fun z2 =>
    obind (nthI r (0 : Int)) fun z3 =>
    obind (nthI r (0 : Int)) fun z4 =>
    cond (decide (z2 < z4))
     ((tl_ref18_put_1 N m (l, ((IntKind.wrap .i64 (k + (1 : Int))), r))))
     (some (l, (k, r))))
   (some (l, (k, r)))
theorem q_l_ref18_put_1 (N : Nat) : ∀ (m : Nat) (v : (List (List Int)) × Int × (List Int)), l_ref18_put_1 N m v = tl_ref18_put_1 N m v
  | 0, _ => by kernel_rfl
  | m + 1, (l, k, r) => by
    rw [l_ref18_put_1_s, tl_ref18_put_1, (fcP (fcL (fcL fcI)) (fcP fcI (fcL fcI))).ok]
    all_goals first | rfl | (simp only [bitI_eq, dem_D, q_l_ref18_put_1 N m]; done) | (simp only [bitI_eq, dem_D, q_l_ref18_put_1 N m]; rfl)
def t_ref18_put : Nat → (List (List Int)) × (List Int) → Option ((List (List Int)))
  | 0, _ => none
  | N + 1, v => (fcP (fcL (fcL fcI)) (fcL fcI)).f v fun (l, r) => obind (t_ref13_Plain N r) fun z1 =>
  obind (tl_ref18_put_1 N N (l, ((0 : Int), z1))) fun z2 =>
  obind (subI z2.1 (0 : Int) z2.2.1) fun z3 =>
  obind (appI (24 : Nat) [] z3) fun z4 =>
  obind (appI (24 : Nat) z4 [z2.2.2]) fun z5 =>
  obind (subI z2.1 z2.2.1 (((List.length z2.1) : Nat) : Int)) fun z6 =>
  obind (appI (24 : Nat) z5 z6) fun z7 =>
  some z7
theorem q_m_ref18_put : ∀ (N : Nat) (v : (List (List Int)) × (List Int)), m_ref18_put N v = t_ref18_put N v
  | 0, _ => by kernel_rfl
  | N + 1, (l, r) => by
    rw [m_ref18_put_eq, t_ref18_put, (fcP (fcL (fcL fcI)) (fcL fcI)).ok]
    all_goals first | rfl | (simp only [q_l_ref18_put_1, q_m_ref13_Plain, bitI_eq, dem_D]; done) | (simp only [q_l_ref18_put_1, q_m_ref13_Plain, bitI_eq, dem_D]; rfl)
def t_ref18_Link : Nat → Int × (List (List Int)) × Int × Int → Option (Int × Int × (List (List Int)))
  | 0, _ => none
  | N + 1, v => (fcP fcI (fcP (fcL (fcL fcI)) (fcP fcI fcI))).f v fun (f, f2, u, v) => obind (t_ref18_Right N (f, f2)) fun z1 =>
  cond (!z1)
   (some ((1 : Int), (f, f2)))
   (obind (t_ref18_in N (f, u)) fun z2 =>
    cond (!z2)
     (some ((10 : Int), (f, f2)))
     (obind (t_ref18_in N (f, v)) fun z3 =>
      cond (!z3)
       (some ((10 : Int), (f, f2)))
       (obind (t_ref18_place N (f, (f2, u))) fun z4 =>
        obind (t_ref18_place N (f, (f2, v))) fun z5 =>
        cond (decide (z4 = z5))
         (some ((5 : Int), (f, f2)))
         (obind (t_ref18_place N (f, (f2, u))) fun z6 =>
          obind (t_ref18_place N (f, (f2, v))) fun z7 =>
          obind (nthI f2 z6) fun z8 =>
          obind (t_ref13_From N (z8, u)) fun z9 =>
          obind (nthI f2 z7) fun z10 =>
          obind (t_ref13_From N (z10, v)) fun z11 =>
          obind (t_ref18_Arc N (f, (u, v))) fun z12 =>
          obind (appI (8 : Nat) [u, z12] z11.2) fun z13 =>
          obind (t_ref18_Arc N (f, (v, u))) fun z14 =>
          obind (appI (8 : Nat) z13 [z14]) fun z15 =>
          obind (subI z9.2 (1 : Int) (((List.length z9.2) : Nat) : Int)) fun z16 =>
          obind (appI (8 : Nat) z15 z16) fun z17 =>
          obind (t_ref18_without N (f2, (if (z7 > z6) then z7 else z6))) fun z18 =>
          obind (t_ref18_without N (z18, (if (z7 < z6) then z7 else z6))) fun z19 =>
          obind (t_ref18_put N (z19, z17)) fun z20 =>
          some ((0 : Int), (f, z20))))))
theorem q_m_ref18_Link : ∀ (N : Nat) (v : Int × (List (List Int)) × Int × Int), m_ref18_Link N v = t_ref18_Link N v
  | 0, _ => by kernel_rfl
  | N + 1, (f, f2, u, v) => by
    rw [m_ref18_Link_eq, t_ref18_Link, (fcP fcI (fcP (fcL (fcL fcI)) (fcP fcI fcI))).ok]
    all_goals first | rfl | (simp only [q_m_ref13_From, q_m_ref18_Arc, q_m_ref18_Right, q_m_ref18_in, q_m_ref18_place, q_m_ref18_put, q_m_ref18_without, bitI_eq, dem_D]; done) | (simp only [q_m_ref13_From, q_m_ref18_Arc, q_m_ref18_Right, q_m_ref18_in, q_m_ref18_place, q_m_ref18_put, q_m_ref18_without, bitI_eq, dem_D]; rfl)
def tl_ref19_Links_1 (N : Nat) : Nat → (List (Int × Int)) × Int × Int × (List (List Int)) × Int × (List Bool) → Option (Int × (List (List Int)) × Int × (List Bool))
  | 0, _ => none
  | m + 1, v => (fcP (fcL (fcP fcI fcI)) (fcP fcI (fcP fcI (fcP (fcL (fcL fcI)) (fcP fcI (fcL fcB)))))).f v fun (l, i, f, f2, v4, out) => cond (decide (i < (((List.length l) : Nat) : Int)))
   (obind (nthI l i) fun z1 =>
    obind (nthI l i) fun z2 =>
    obind (t_ref18_Link N (f, (f2, (z1.1, z2.2)))) fun z3 =>
    obind (appI (1 : Nat) out [(decide (z3.1 = (0 : Int)))]) fun z4 =>
    (tl_ref19_Links_1 N m (l, ((IntKind.wrap .i64 (i + (1 : Int))), (z3.2.1, (z3.2.2, (v4, z4)))))))
   (some (f, (f2, (v4, out))))
theorem q_l_ref19_Links_1 (N : Nat) : ∀ (m : Nat) (v : (List (Int × Int)) × Int × Int × (List (List Int)) × Int × (List Bool)), l_ref19_Links_1 N m v = tl_ref19_Links_1 N m v
  | 0, _ => by kernel_rfl
  | m + 1, (l, i, f, f2, v4, out) => by
    rw [l_ref19_Links_1_s, tl_ref19_Links_1, (fcP (fcL (fcP fcI fcI)) (fcP fcI (fcP fcI (fcP (fcL (fcL fcI)) (fcP fcI (fcL fcB)))))).ok]
    all_goals first | rfl | (simp only [q_m_ref18_Link, bitI_eq, dem_D, q_l_ref19_Links_1 N m]; done) | (simp only [q_m_ref18_Link, bitI_eq, dem_D, q_l_ref19_Links_1 N m]; rfl)
def t_ref19_Links : Nat → Int × (List (List Int)) × (List (Int × Int)) → Option (Int × Int × (List (List Int)) × (List Bool))
  | 0, _ => none
  | N + 1, v => (fcP fcI (fcP (fcL (fcL fcI)) (fcL (fcP fcI fcI)))).f v fun (f, f2, l) => obind (t_ref19_there N (f, (f2, l))) fun z1 =>
  cond (!(decide (z1 = (0 : Int))))
   (some (z1, (f, (f2, []))))
   (obind (tl_ref19_Links_1 N N (l, ((0 : Int), (f, (f2, ((0 : Int), [])))))) fun z2 =>
    some ((0 : Int), (z2.1, (z2.2.1, z2.2.2.2))))
theorem q_m_ref19_Links : ∀ (N : Nat) (v : Int × (List (List Int)) × (List (Int × Int))), m_ref19_Links N v = t_ref19_Links N v
  | 0, _ => by kernel_rfl
  | N + 1, (f, f2, l) => by
    rw [m_ref19_Links_eq, t_ref19_Links, (fcP fcI (fcP (fcL (fcL fcI)) (fcL (fcP fcI fcI)))).ok]
    all_goals first | rfl | (simp only [q_l_ref19_Links_1, q_m_ref19_there, bitI_eq, dem_D]; done) | (simp only [q_l_ref19_Links_1, q_m_ref19_there, bitI_eq, dem_D]; rfl)
def t_ref19_Of : Nat → Int × (List (Int × Int)) → Option (Int × Int × (List (List Int)))
  | 0, _ => none
  | N + 1, v => (fcP fcI (fcL (fcP fcI fcI))).f v fun (n, l) => obind (t_ref18_Make N n) fun z1 =>
  cond (!(decide (z1.1 = (0 : Int))))
   (some (z1.1, ((0 : Int), [])))
   (obind (t_ref19_Links N (z1.2.1, (z1.2.2, l))) fun z2 =>
    cond (!(decide (z2.1 = (0 : Int))))
     (some (z2.1, ((0 : Int), [])))
     (some ((0 : Int), (z2.2.1, z2.2.2.1))))
theorem q_m_ref19_Of : ∀ (N : Nat) (v : Int × (List (Int × Int))), m_ref19_Of N v = t_ref19_Of N v
  | 0, _ => by kernel_rfl
  | N + 1, (n, l) => by
    rw [m_ref19_Of_eq, t_ref19_Of, (fcP fcI (fcL (fcP fcI fcI))).ok]
    all_goals first | rfl | (simp only [q_m_ref18_Make, q_m_ref19_Links, bitI_eq, dem_D]; done) | (simp only [q_m_ref18_Make, q_m_ref19_Links, bitI_eq, dem_D]; rfl)
def t_tour_sized : Nat → Int → Option (Bool)
  | 0, _ => none
  | N + 1, v => fcI.f v fun (n) => cond (decide ((1 : Int) ≤ n))
   (some (decide (n ≤ (64 : Int))))
   (some false)
theorem q_m_tour_sized : ∀ (N : Nat) (v : Int), m_tour_sized N v = t_tour_sized N v
  | 0, _ => by kernel_rfl
  | N + 1, (n) => by
    rw [m_tour_sized_eq, t_tour_sized, fcI.ok]
    all_goals first | rfl | (simp only [bitI_eq, dem_D]; done) | (simp only [bitI_eq, dem_D]; rfl)
def t_ring_RightF1 : Nat → Int → Option (Bool)
  | 0, _ => none
  | N + 1, v => fcI.f v fun (t) => cond (decide (t < (0 : Int)))
   (some true)
   (some (decide ((10000 : Int) < t)))
theorem q_m_ring_RightF1 : ∀ (N : Nat) (v : Int), m_ring_RightF1 N v = t_ring_RightF1 N v
  | 0, _ => by kernel_rfl
  | N + 1, (t) => by
    rw [m_ring_RightF1_eq, t_ring_RightF1, fcI.ok]
    all_goals first | rfl | (simp only [bitI_eq, dem_D]; done) | (simp only [bitI_eq, dem_D]; rfl)
def tl_slices_IndexFunc_Lint_int_ring_RightF1_1 (N : Nat) : Nat → (List Int) × Int × Int → Option ((Unit) ⊕ (Int))
  | 0, _ => none
  | m + 1, v => (fcP (fcL fcI) (fcP fcI fcI)).f v fun (s, v7, v8) => cond (decide (v8 < v7))
   (obind (nthI s v8) fun z1 =>
    obind (t_ring_RightF1 N z1) fun z2 =>
    cond z2
     (some (.inr v8))
     ((tl_slices_IndexFunc_Lint_int_ring_RightF1_1 N m (s, (v7, (IntKind.wrap .i64 (v8 + (1 : Int))))))))
   (some (.inl ()))
theorem q_l_slices_IndexFunc_Lint_int_ring_RightF1_1 (N : Nat) : ∀ (m : Nat) (v : (List Int) × Int × Int), l_slices_IndexFunc_Lint_int_ring_RightF1_1 N m v = tl_slices_IndexFunc_Lint_int_ring_RightF1_1 N m v
  | 0, _ => by kernel_rfl
  | m + 1, (s, v7, v8) => by
    rw [l_slices_IndexFunc_Lint_int_ring_RightF1_1_s, tl_slices_IndexFunc_Lint_int_ring_RightF1_1, (fcP (fcL fcI) (fcP fcI fcI)).ok]
    all_goals first | rfl | (simp only [q_m_ring_RightF1, bitI_eq, dem_D, q_l_slices_IndexFunc_Lint_int_ring_RightF1_1 N m]; done) | (simp only [q_m_ring_RightF1, bitI_eq, dem_D, q_l_slices_IndexFunc_Lint_int_ring_RightF1_1 N m]; rfl)
def t_slices_IndexFunc_Lint_int_ring_RightF1 : Nat → (List Int) → Option (Int)
  | 0, _ => none
  | N + 1, v => (fcL fcI).f v fun (s) => obind (tl_slices_IndexFunc_Lint_int_ring_RightF1_1 N N (s, ((((List.length s) : Nat) : Int), (0 : Int)))) fun z1 =>
  (match z1 with
  | .inl zy2 => some (-(1 : Int))
  | .inr zy3 => some zy3)
theorem q_m_slices_IndexFunc_Lint_int_ring_RightF1 : ∀ (N : Nat) (v : (List Int)), m_slices_IndexFunc_Lint_int_ring_RightF1 N v = t_slices_IndexFunc_Lint_int_ring_RightF1 N v
  | 0, _ => by kernel_rfl
  | N + 1, (s) => by
    rw [m_slices_IndexFunc_Lint_int_ring_RightF1_eq, t_slices_IndexFunc_Lint_int_ring_RightF1, (fcL fcI).ok]
    all_goals first | rfl | (simp only [q_l_slices_IndexFunc_Lint_int_ring_RightF1_1, bitI_eq, dem_D]; done) | (simp only [q_l_slices_IndexFunc_Lint_int_ring_RightF1_1, bitI_eq, dem_D]; rfl)
def t_slices_ContainsFunc_Lint_int_ring_RightF1 : Nat → (List Int) → Option (Bool)
  | 0, _ => none
  | N + 1, v => (fcL fcI).f v fun (s) => obind (t_slices_IndexFunc_Lint_int_ring_RightF1 N s) fun z1 =>
  some (decide ((0 : Int) ≤ z1))
theorem q_m_slices_ContainsFunc_Lint_int_ring_RightF1 : ∀ (N : Nat) (v : (List Int)), m_slices_ContainsFunc_Lint_int_ring_RightF1 N v = t_slices_ContainsFunc_Lint_int_ring_RightF1 N v
  | 0, _ => by kernel_rfl
  | N + 1, (s) => by
    rw [m_slices_ContainsFunc_Lint_int_ring_RightF1_eq, t_slices_ContainsFunc_Lint_int_ring_RightF1, (fcL fcI).ok]
    all_goals first | rfl | (simp only [q_m_slices_IndexFunc_Lint_int_ring_RightF1, bitI_eq, dem_D]; done) | (simp only [q_m_slices_IndexFunc_Lint_int_ring_RightF1, bitI_eq, dem_D]; rfl)
def tl_ring_once_int_1 (N : Nat) : Nat → (List Int) × (List Int) × Int × Int × (List (Int × Int)) → Option ((List Int) × (List (Int × Int)))
  | 0, _ => none
  | m + 1, v => (fcP (fcL fcI) (fcP (fcL fcI) (fcP fcI (fcP fcI (fcL (fcP fcI fcI)))))).f v fun (l, v7, v8, v9, met) => cond (decide (v9 < v8))
   (obind (nthI v7 v9) fun z1 =>
    (tl_ring_once_int_1 N m (l, (v7, (v8, ((IntKind.wrap .i64 (v9 + (1 : Int))), (mput (.i .i64) met z1 (IntKind.wrap .i64 ((Option.getD (mget (.i .i64) met z1) (0 : Int)) + (1 : Int))))))))))
   (some (l, met))
theorem q_l_ring_once_int_1 (N : Nat) : ∀ (m : Nat) (v : (List Int) × (List Int) × Int × Int × (List (Int × Int))), l_ring_once_int_1 N m v = tl_ring_once_int_1 N m v
  | 0, _ => by kernel_rfl
  | m + 1, (l, v7, v8, v9, met) => by
    rw [l_ring_once_int_1_s, tl_ring_once_int_1, (fcP (fcL fcI) (fcP (fcL fcI) (fcP fcI (fcP fcI (fcL (fcP fcI fcI)))))).ok]
    all_goals first | rfl | (simp only [bitI_eq, dem_D, q_l_ring_once_int_1 N m]; done) | (simp only [bitI_eq, dem_D, q_l_ring_once_int_1 N m]; rfl)
def t_ring_once_int : Nat → (List Int) → Option (Bool)
  | 0, _ => none
  | N + 1, v => (fcL fcI).f v fun (l) => obind (tl_ring_once_int_1 N N (l, (l, ((((List.length l) : Nat) : Int), ((0 : Int), []))))) fun z1 =>
  some (decide ((((List.length z1.2) : Nat) : Int) = (((List.length z1.1) : Nat) : Int)))
theorem q_m_ring_once_int : ∀ (N : Nat) (v : (List Int)), m_ring_once_int N v = t_ring_once_int N v
  | 0, _ => by kernel_rfl
  | N + 1, (l) => by
    rw [m_ring_once_int_eq, t_ring_once_int, (fcL fcI).ok]
    all_goals first | rfl | (simp only [q_l_ring_once_int_1, bitI_eq, dem_D]; done) | (simp only [q_l_ring_once_int_1, bitI_eq, dem_D]; rfl)
def t_ring_Right : Nat → (List Int) → Option (Bool)
  | 0, _ => none
  | N + 1, v => (fcL fcI).f v fun (l) => cond (decide ((1000 : Int) < (((List.length l) : Nat) : Int)))
   (some false)
   (obind (t_slices_ContainsFunc_Lint_int_ring_RightF1 N l) fun z1 =>
    cond (!z1)
     (obind (t_ring_once_int N l) fun z2 =>
      some z2)
     (some false))
theorem q_m_ring_Right : ∀ (N : Nat) (v : (List Int)), m_ring_Right N v = t_ring_Right N v
  | 0, _ => by kernel_rfl
  | N + 1, (l) => by
    rw [m_ring_Right_eq, t_ring_Right, (fcL fcI).ok]
    all_goals first | rfl | (simp only [q_m_ring_once_int, q_m_slices_ContainsFunc_Lint_int_ring_RightF1, bitI_eq, dem_D]; done) | (simp only [q_m_ring_once_int, q_m_slices_ContainsFunc_Lint_int_ring_RightF1, bitI_eq, dem_D]; rfl)
def tl_slices_Min_Lint_int_1 (N : Nat) : Nat → (List Int) × Int × Int → Option (Int)
  | 0, _ => none
  | m + 1, v => (fcP (fcL fcI) (fcP fcI fcI)).f v fun (x, v3, i) => cond (decide (i < (((List.length x) : Nat) : Int)))
   (obind (nthI x i) fun z1 =>
    (tl_slices_Min_Lint_int_1 N m (x, ((if (z1 < v3) then z1 else v3), (IntKind.wrap .i64 (i + (1 : Int)))))))
   (some v3)
theorem q_l_slices_Min_Lint_int_1 (N : Nat) : ∀ (m : Nat) (v : (List Int) × Int × Int), l_slices_Min_Lint_int_1 N m v = tl_slices_Min_Lint_int_1 N m v
  | 0, _ => by kernel_rfl
  | m + 1, (x, v3, i) => by
    rw [l_slices_Min_Lint_int_1_s, tl_slices_Min_Lint_int_1, (fcP (fcL fcI) (fcP fcI fcI)).ok]
    all_goals first | rfl | (simp only [bitI_eq, dem_D, q_l_slices_Min_Lint_int_1 N m]; done) | (simp only [bitI_eq, dem_D, q_l_slices_Min_Lint_int_1 N m]; rfl)
def t_slices_Min_Lint_int : Nat → (List Int) → Option (Int)
  | 0, _ => none
  | N + 1, v => (fcL fcI).f v fun (x) => cond (decide ((((List.length x) : Nat) : Int) < (1 : Int)))
   (none)
   (obind (nthI x (0 : Int)) fun z1 =>
    obind (tl_slices_Min_Lint_int_1 N N (x, (z1, (1 : Int)))) fun z2 =>
    some z2)
theorem q_m_slices_Min_Lint_int : ∀ (N : Nat) (v : (List Int)), m_slices_Min_Lint_int N v = t_slices_Min_Lint_int N v
  | 0, _ => by kernel_rfl
  | N + 1, (x) => by
    rw [m_slices_Min_Lint_int_eq, t_slices_Min_Lint_int, (fcL fcI).ok]
    all_goals first | rfl | (simp only [q_l_slices_Min_Lint_int_1, bitI_eq, dem_D]; done) | (simp only [q_l_slices_Min_Lint_int_1, bitI_eq, dem_D]; rfl)
def t_tour_in : Nat → Int × Int → Option (Bool)
  | 0, _ => none
  | N + 1, v => (fcP fcI fcI).f v fun (n, v) => obind (t_tour_sized N n) fun z1 =>
  cond z1
   (cond (decide ((0 : Int) ≤ v))
     (some (decide (v < n)))
     (some false))
   (some false)
theorem q_m_tour_in : ∀ (N : Nat) (v : Int × Int), m_tour_in N v = t_tour_in N v
  | 0, _ => by kernel_rfl
  | N + 1, (n, v) => by
    rw [m_tour_in_eq, t_tour_in, (fcP fcI fcI).ok]
    all_goals first | rfl | (simp only [q_m_tour_sized, bitI_eq, dem_D]; done) | (simp only [q_m_tour_sized, bitI_eq, dem_D]; rfl)
def t_tour_Token : Nat → Int × Int → Option (Int × Int × Bool × Bool)
  | 0, _ => none
  | N + 1, v => (fcP fcI fcI).f v fun (n, token) => obind (t_tour_sized N n) fun z1 =>
  cond (!z1)
   (some ((0 : Int), ((0 : Int), (false, false))))
   (cond (decide (token < (0 : Int)))
     (some ((0 : Int), ((0 : Int), (false, false))))
     (cond (decide ((IntKind.wrap .i64 (n * (IntKind.wrap .i64 (n + (1 : Int))))) ≤ token))
       (some ((0 : Int), ((0 : Int), (false, false))))
       (cond (decide (token < n))
         (some (token, ((0 : Int), (false, true))))
         (obind (quoI token n) fun z2 =>
          obind (remI token n) fun z3 =>
          cond (decide ((IntKind.wrap .i64 ((IntKind.wrap .i64 z2) - (1 : Int))) = z3))
           (some ((0 : Int), ((0 : Int), (false, false))))
           (some ((IntKind.wrap .i64 ((IntKind.wrap .i64 z2) - (1 : Int))), (z3, (true, true))))))))
theorem q_m_tour_Token : ∀ (N : Nat) (v : Int × Int), m_tour_Token N v = t_tour_Token N v
  | 0, _ => by kernel_rfl
  | N + 1, (n, token) => by
    rw [m_tour_Token_eq, t_tour_Token, (fcP fcI fcI).ok]
    all_goals first | rfl | (simp only [q_m_tour_sized, bitI_eq, dem_D]; done) | (simp only [q_m_tour_sized, bitI_eq, dem_D]; rfl)
def t__tour_walk_along_pomm : Nat → Int × Int × (List Int) × (List (Int × Int)) × (List (Int × Int)) → Option (Bool × (List (Int × Int)) × (List (Int × Int)) × (List Int))
  | 0, _ => none
  | N + 1, v => (fcP fcI (fcP fcI (fcP (fcL fcI) (fcP (fcL (fcP fcI fcI)) (fcL (fcP fcI fcI)))))).f v fun (u, v, h, h2, h3) => obind (nthI h (IntKind.wrap .i64 ((((List.length h) : Nat) : Int) - (1 : Int)))) fun z1 =>
  obind (nthI h (IntKind.wrap .i64 ((((List.length h) : Nat) : Int) - (1 : Int)))) fun z2 =>
  cond (!(decide (z2 = u)))
   (some (false, (h2, (h3, h))))
   (cond (decide ((0 : Int) < (IntKind.wrap .i64 ((((List.length h) : Nat) : Int) - (1 : Int)))))
     (obind (nthI h (IntKind.wrap .i64 ((IntKind.wrap .i64 ((((List.length h) : Nat) : Int) - (1 : Int))) - (1 : Int)))) fun z3 =>
      obind (nthI h (IntKind.wrap .i64 ((IntKind.wrap .i64 ((((List.length h) : Nat) : Int) - (1 : Int))) - (1 : Int)))) fun z4 =>
      cond (decide (z4 = v))
       (obind (subI h (0 : Int) (IntKind.wrap .i64 ((((List.length h) : Nat) : Int) - (1 : Int)))) fun z5 =>
        some (true, (h2, (h3, z5))))
       (cond (decide ((0 : Int) < (Option.getD (mget (.i .i64) h2 v) (0 : Int))))
         (some (false, (h2, (h3, h))))
         (obind (appI (8 : Nat) h [v]) fun z6 =>
          some (true, ((mput (.i .i64) h2 v (IntKind.wrap .i64 ((Option.getD (mget (.i .i64) h2 v) (0 : Int)) + (1 : Int)))), (h3, z6))))))
     (cond (decide ((0 : Int) < (Option.getD (mget (.i .i64) h2 v) (0 : Int))))
       (some (false, (h2, (h3, h))))
       (obind (appI (8 : Nat) h [v]) fun z7 =>
        some (true, ((mput (.i .i64) h2 v (IntKind.wrap .i64 ((Option.getD (mget (.i .i64) h2 v) (0 : Int)) + (1 : Int)))), (h3, z7))))))
theorem q_m__tour_walk_along_pomm : ∀ (N : Nat) (v : Int × Int × (List Int) × (List (Int × Int)) × (List (Int × Int))), m__tour_walk_along_pomm N v = t__tour_walk_along_pomm N v
  | 0, _ => by kernel_rfl
  | N + 1, (u, v, h, h2, h3) => by
    rw [m__tour_walk_along_pomm_eq, t__tour_walk_along_pomm, (fcP fcI (fcP fcI (fcP (fcL fcI) (fcP (fcL (fcP fcI fcI)) (fcL (fcP fcI fcI)))))).ok]
    all_goals first | rfl | (simp only [bitI_eq, dem_D]; done) | (simp only [bitI_eq, dem_D]; rfl)
def tl_tour_goes_1 (N : Nat) : Nat → Int × (List Int) × Int × Int × (List Int) × (List (Int × Int)) × (List (Int × Int)) → Option (((List Int) × (List (Int × Int)) × (List (Int × Int))) ⊕ (Bool))
  | 0, _ => none
  | m + 1, v => (fcP fcI (fcP (fcL fcI) (fcP fcI (fcP fcI (fcP (fcL fcI) (fcP (fcL (fcP fcI fcI)) (fcL (fcP fcI fcI)))))))).f v fun (n, v30, v31, v32, v901, v902, v903) => cond (decide (v32 < v31))
   (obind (nthI v30 v32) fun z1 =>
    obind (t_tour_Token N (n, z1)) fun z2 =>
    cond (!z2.2.2.2)
     (some (.inr false))
     (cond z2.2.2.1
       (obind (t__tour_walk_along_pomm N (z2.1, (z2.2.1, (v901, (v902, v903))))) fun z3 =>
        cond (!z3.1)
         (some (.inr false))
         (cond (!z2.2.2.1)
           (obind (nthI z3.2.2.2 (IntKind.wrap .i64 ((((List.length z3.2.2.2) : Nat) : Int) - (1 : Int)))) fun z4 =>
            obind (nthI z3.2.2.2 (IntKind.wrap .i64 ((((List.length z3.2.2.2) : Nat) : Int) - (1 : Int)))) fun z5 =>
            cond (!(decide (z5 = z2.1)))
             (some (.inr false))
             (cond (!z2.2.2.1)
               ((tl_tour_goes_1 N m (n, (v30, (v31, ((IntKind.wrap .i64 (v32 + (1 : Int))), (z3.2.2.2, (z3.2.1, (mput (.i .i64) z3.2.2.1 z2.1 (IntKind.wrap .i64 ((Option.getD (mget (.i .i64) z3.2.2.1 z2.1) (0 : Int)) + (1 : Int))))))))))))
               ((tl_tour_goes_1 N m (n, (v30, (v31, ((IntKind.wrap .i64 (v32 + (1 : Int))), (z3.2.2.2, (z3.2.1, z3.2.2.1))))))))))
           (cond (!z2.2.2.1)
             ((tl_tour_goes_1 N m (n, (v30, (v31, ((IntKind.wrap .i64 (v32 + (1 : Int))), (z3.2.2.2, (z3.2.1, (mput (.i .i64) z3.2.2.1 z2.1 (IntKind.wrap .i64 ((Option.getD (mget (.i .i64) z3.2.2.1 z2.1) (0 : Int)) + (1 : Int))))))))))))
             ((tl_tour_goes_1 N m (n, (v30, (v31, ((IntKind.wrap .i64 (v32 + (1 : Int))), (z3.2.2.2, (z3.2.1, z3.2.2.1)))))))))))
       (cond (!z2.2.2.1)
         (obind (nthI v901 (IntKind.wrap .i64 ((((List.length v901) : Nat) : Int) - (1 : Int)))) fun z6 =>
          obind (nthI v901 (IntKind.wrap .i64 ((((List.length v901) : Nat) : Int) - (1 : Int)))) fun z7 =>
          cond (!(decide (z7 = z2.1)))
           (some (.inr false))
           (cond (!z2.2.2.1)
             ((tl_tour_goes_1 N m (n, (v30, (v31, ((IntKind.wrap .i64 (v32 + (1 : Int))), (v901, (v902, (mput (.i .i64) v903 z2.1 (IntKind.wrap .i64 ((Option.getD (mget (.i .i64) v903 z2.1) (0 : Int)) + (1 : Int))))))))))))
             ((tl_tour_goes_1 N m (n, (v30, (v31, ((IntKind.wrap .i64 (v32 + (1 : Int))), (v901, (v902, v903))))))))))
         (cond (!z2.2.2.1)
           ((tl_tour_goes_1 N m (n, (v30, (v31, ((IntKind.wrap .i64 (v32 + (1 : Int))), (v901, (v902, (mput (.i .i64) v903 z2.1 (IntKind.wrap .i64 ((Option.getD (mget (.i .i64) v903 z2.1) (0 : Int)) + (1 : Int))))))))))))
           ((tl_tour_goes_1 N m (n, (v30, (v31, ((IntKind.wrap .i64 (v32 + (1 : Int))), (v901, (v902, v903))))))))))))
   (some (.inl (v901, (v902, v903))))
theorem q_l_tour_goes_1 (N : Nat) : ∀ (m : Nat) (v : Int × (List Int) × Int × Int × (List Int) × (List (Int × Int)) × (List (Int × Int))), l_tour_goes_1 N m v = tl_tour_goes_1 N m v
  | 0, _ => by kernel_rfl
  | m + 1, (n, v30, v31, v32, v901, v902, v903) => by
    rw [l_tour_goes_1_s, tl_tour_goes_1, (fcP fcI (fcP (fcL fcI) (fcP fcI (fcP fcI (fcP (fcL fcI) (fcP (fcL (fcP fcI fcI)) (fcL (fcP fcI fcI)))))))).ok]
    all_goals first | rfl | (simp only [q_m__tour_walk_along_pomm, q_m_tour_Token, bitI_eq, dem_D, q_l_tour_goes_1 N m]; done) | (simp only [q_m__tour_walk_along_pomm, q_m_tour_Token, bitI_eq, dem_D, q_l_tour_goes_1 N m]; rfl)
def t_tour_goes : Nat → Int × (List Int) → Option (Bool)
  | 0, _ => none
  | N + 1, v => (fcP fcI (fcL fcI)).f v fun (n, l) => obind (nthI l (0 : Int)) fun z1 =>
  obind (t_tour_in N (n, z1)) fun z2 =>
  cond (!z2)
   (some false)
   (obind (nthI l (0 : Int)) fun z3 =>
    obind (nthI l (0 : Int)) fun z4 =>
    obind (tl_tour_goes_1 N N (n, (l, ((((List.length l) : Nat) : Int), ((0 : Int), ([z3], ((mput (.i .i64) [] z4 (1 : Int)), []))))))) fun z5 =>
    (match z5 with
    | .inl zy6 => cond (decide ((((List.length zy6.1) : Nat) : Int) = (1 : Int)))
       (some (decide ((((List.length zy6.2.2) : Nat) : Int) = (((List.length zy6.2.1) : Nat) : Int))))
       (some false)
    | .inr zy7 => some zy7))
theorem q_m_tour_goes : ∀ (N : Nat) (v : Int × (List Int)), m_tour_goes N v = t_tour_goes N v
  | 0, _ => by kernel_rfl
  | N + 1, (n, l) => by
    rw [m_tour_goes_eq, t_tour_goes, (fcP fcI (fcL fcI)).ok]
    all_goals first | rfl | (simp only [q_l_tour_goes_1, q_m_tour_in, bitI_eq, dem_D]; done) | (simp only [q_l_tour_goes_1, q_m_tour_in, bitI_eq, dem_D]; rfl)
def tl_tour_Right_3 (N : Nat) : Nat → Int × Int × (List (Int × Int)) → Option ((Unit) ⊕ (Bool))
  | 0, _ => none
  | m + 1, v => (fcP fcI (fcP fcI (fcL (fcP fcI fcI)))).f v fun (v78, v79, met) => cond (decide (v79 < v78))
   (cond (decide ((Option.getD (mget (.i .i64) met v79) (0 : Int)) = (0 : Int)))
     (some (.inr false))
     ((tl_tour_Right_3 N m (v78, ((IntKind.wrap .i64 (v79 + (1 : Int))), met)))))
   (some (.inl ()))
theorem q_l_tour_Right_3 (N : Nat) : ∀ (m : Nat) (v : Int × Int × (List (Int × Int))), l_tour_Right_3 N m v = tl_tour_Right_3 N m v
  | 0, _ => by kernel_rfl
  | m + 1, (v78, v79, met) => by
    rw [l_tour_Right_3_s, tl_tour_Right_3, (fcP fcI (fcP fcI (fcL (fcP fcI fcI)))).ok]
    all_goals first | rfl | (simp only [bitI_eq, dem_D, q_l_tour_Right_3 N m]; done) | (simp only [bitI_eq, dem_D, q_l_tour_Right_3 N m]; rfl)
def tl_tour_Right_2 (N : Nat) : Nat → Int × (List (List Int)) × Int × Int × (List Int) × Int × Int × Int × (List (List Int)) × (List (Int × Int)) → Option ((Int × (List (List Int)) × Int × Int × Int × (List (List Int)) × (List (Int × Int))) ⊕ (Bool))
  | 0, _ => none
  | m + 1, v => (fcP fcI (fcP (fcL (fcL fcI)) (fcP fcI (fcP fcI (fcP (fcL fcI) (fcP fcI (fcP fcI (fcP fcI (fcP (fcL (fcL fcI)) (fcL (fcP fcI fcI))))))))))).f v fun (last, v16, v17, v18, v55, v56, v57, f, f2, met) => cond (decide (v57 < v56))
   (obind (nthI v55 v57) fun z1 =>
    cond (decide (z1 < f))
     (cond (decide ((0 : Int) < (Option.getD (mget (.i .i64) met z1) (0 : Int))))
       (some (.inr false))
       ((tl_tour_Right_2 N m (last, (v16, (v17, (v18, (v55, (v56, ((IntKind.wrap .i64 (v57 + (1 : Int))), (f, (f2, (mput (.i .i64) met z1 (IntKind.wrap .i64 ((Option.getD (mget (.i .i64) met z1) (0 : Int)) + (1 : Int))))))))))))))))
     ((tl_tour_Right_2 N m (last, (v16, (v17, (v18, (v55, (v56, ((IntKind.wrap .i64 (v57 + (1 : Int))), (f, (f2, (mput (.i .i64) met z1 (IntKind.wrap .i64 ((Option.getD (mget (.i .i64) met z1) (0 : Int)) + (1 : Int))))))))))))))))
   (some (.inl (last, (v16, (v17, (v18, (f, (f2, met))))))))
theorem q_l_tour_Right_2 (N : Nat) : ∀ (m : Nat) (v : Int × (List (List Int)) × Int × Int × (List Int) × Int × Int × Int × (List (List Int)) × (List (Int × Int))), l_tour_Right_2 N m v = tl_tour_Right_2 N m v
  | 0, _ => by kernel_rfl
  | m + 1, (last, v16, v17, v18, v55, v56, v57, f, f2, met) => by
    rw [l_tour_Right_2_s, tl_tour_Right_2, (fcP fcI (fcP (fcL (fcL fcI)) (fcP fcI (fcP fcI (fcP (fcL fcI) (fcP fcI (fcP fcI (fcP fcI (fcP (fcL (fcL fcI)) (fcL (fcP fcI fcI))))))))))).ok]
    all_goals first | rfl | (simp only [bitI_eq, dem_D, q_l_tour_Right_2 N m]; done) | (simp only [bitI_eq, dem_D, q_l_tour_Right_2 N m]; rfl)
def tl_tour_Right_1 (N : Nat) : Nat → Int × (List (List Int)) × Int × Int × Int × (List (List Int)) × (List (Int × Int)) → Option ((Int × (List (List Int)) × (List (Int × Int))) ⊕ (Bool))
  | 0, _ => none
  | m + 1, v => (fcP fcI (fcP (fcL (fcL fcI)) (fcP fcI (fcP fcI (fcP fcI (fcP (fcL (fcL fcI)) (fcL (fcP fcI fcI)))))))).f v fun (last, v16, v17, v18, f, f2, met) => cond (decide (v18 < v17))
   (obind (nthI v16 v18) fun z1 =>
    cond (decide ((((List.length z1) : Nat) : Int) = (0 : Int)))
     (some (.inr false))
     (obind (nthI z1 (0 : Int)) fun z2 =>
      cond (decide (z2 ≤ last))
       (some (.inr false))
       (obind (t_ring_Right N z1) fun z3 =>
        cond (!z3)
         (some (.inr false))
         (obind (t_slices_Min_Lint_int N z1) fun z4 =>
          obind (nthI z1 (0 : Int)) fun z5 =>
          cond (!(decide (z4 = z5)))
           (some (.inr false))
           (obind (t_tour_goes N (f, z1)) fun z6 =>
            cond (!z6)
             (some (.inr false))
             (obind (nthI z1 (0 : Int)) fun z7 =>
              obind (tl_tour_Right_2 N N (z7, (v16, (v17, (v18, (z1, ((((List.length z1) : Nat) : Int), ((0 : Int), (f, (f2, met)))))))))) fun z8 =>
              (match z8 with
              | .inl zy9 => (tl_tour_Right_1 N m (zy9.1, (zy9.2.1, (zy9.2.2.1, ((IntKind.wrap .i64 (zy9.2.2.2.1 + (1 : Int))), (zy9.2.2.2.2.1, (zy9.2.2.2.2.2.1, zy9.2.2.2.2.2.2)))))))
              | .inr zy10 => some (.inr zy10))))))))
   (some (.inl (f, (f2, met))))
theorem q_l_tour_Right_1 (N : Nat) : ∀ (m : Nat) (v : Int × (List (List Int)) × Int × Int × Int × (List (List Int)) × (List (Int × Int))), l_tour_Right_1 N m v = tl_tour_Right_1 N m v
  | 0, _ => by kernel_rfl
  | m + 1, (last, v16, v17, v18, f, f2, met) => by
    rw [l_tour_Right_1_s, tl_tour_Right_1, (fcP fcI (fcP (fcL (fcL fcI)) (fcP fcI (fcP fcI (fcP fcI (fcP (fcL (fcL fcI)) (fcL (fcP fcI fcI)))))))).ok]
    all_goals first | rfl | (simp only [q_l_tour_Right_2, q_m_ring_Right, q_m_slices_Min_Lint_int, q_m_tour_goes, bitI_eq, dem_D, q_l_tour_Right_1 N m]; done) | (simp only [q_l_tour_Right_2, q_m_ring_Right, q_m_slices_Min_Lint_int, q_m_tour_goes, bitI_eq, dem_D, q_l_tour_Right_1 N m]; rfl)
def t_tour_Right : Nat → Int × (List (List Int)) → Option (Bool)
  | 0, _ => none
  | N + 1, v => (fcP fcI (fcL (fcL fcI))).f v fun (f, f2) => obind (t_tour_sized N f) fun z1 =>
  cond (!z1)
   (some false)
   (obind (tl_tour_Right_1 N N ((-(1 : Int)), (f2, ((((List.length f2) : Nat) : Int), ((0 : Int), (f, (f2, []))))))) fun z2 =>
    (match z2 with
    | .inl zy3 => obind (tl_tour_Right_3 N N (zy3.1, ((0 : Int), zy3.2.2))) fun z4 =>
      (match z4 with
      | .inl zy5 => some true
      | .inr zy6 => some zy6)
    | .inr zy7 => some zy7))
theorem q_m_tour_Right : ∀ (N : Nat) (v : Int × (List (List Int))), m_tour_Right N v = t_tour_Right N v
  | 0, _ => by kernel_rfl
  | N + 1, (f, f2) => by
    rw [m_tour_Right_eq, t_tour_Right, (fcP fcI (fcL (fcL fcI))).ok]
    all_goals first | rfl | (simp only [q_l_tour_Right_1, q_l_tour_Right_3, q_m_tour_sized, bitI_eq, dem_D]; done) | (simp only [q_l_tour_Right_1, q_l_tour_Right_3, q_m_tour_sized, bitI_eq, dem_D]; rfl)
def tl_span_asked_1 (N : Nat) : Nat → Int × (List (Int × Int)) × Int × Int → Option ((Unit) ⊕ (Int))
  | 0, _ => none
  | m + 1, v => (fcP fcI (fcP (fcL (fcP fcI fcI)) (fcP fcI fcI))).f v fun (n, v13, v14, v15) => cond (decide (v15 < v14))
   (obind (nthI v13 v15) fun z1 =>
    cond (decide ((if (z1.2 < z1.1) then z1.2 else z1.1) < (0 : Int)))
     (some (.inr (10 : Int)))
     (cond (decide (n ≤ (if (z1.2 > z1.1) then z1.2 else z1.1)))
       (some (.inr (10 : Int)))
       ((tl_span_asked_1 N m (n, (v13, (v14, (IntKind.wrap .i64 (v15 + (1 : Int))))))))))
   (some (.inl ()))
theorem q_l_span_asked_1 (N : Nat) : ∀ (m : Nat) (v : Int × (List (Int × Int)) × Int × Int), l_span_asked_1 N m v = tl_span_asked_1 N m v
  | 0, _ => by kernel_rfl
  | m + 1, (n, v13, v14, v15) => by
    rw [l_span_asked_1_s, tl_span_asked_1, (fcP fcI (fcP (fcL (fcP fcI fcI)) (fcP fcI fcI))).ok]
    all_goals first | rfl | (simp only [bitI_eq, dem_D, q_l_span_asked_1 N m]; done) | (simp only [bitI_eq, dem_D, q_l_span_asked_1 N m]; rfl)
def t_span_asked : Nat → Int × (List (Int × Int)) → Option (Int)
  | 0, _ => none
  | N + 1, v => (fcP fcI (fcL (fcP fcI fcI))).f v fun (n, l) => cond (decide (n < (1 : Int)))
   (some (1 : Int))
   (cond (decide ((64 : Int) < n))
     (some (1 : Int))
     (obind (tl_span_asked_1 N N (n, (l, ((((List.length l) : Nat) : Int), (0 : Int))))) fun z1 =>
      (match z1 with
      | .inl zy2 => some (0 : Int)
      | .inr zy3 => some zy3)))
theorem q_m_span_asked : ∀ (N : Nat) (v : Int × (List (Int × Int))), m_span_asked N v = t_span_asked N v
  | 0, _ => by kernel_rfl
  | N + 1, (n, l) => by
    rw [m_span_asked_eq, t_span_asked, (fcP fcI (fcL (fcP fcI fcI))).ok]
    all_goals first | rfl | (simp only [q_l_span_asked_1, bitI_eq, dem_D]; done) | (simp only [q_l_span_asked_1, bitI_eq, dem_D]; rfl)
def t_forest_thereF1_phh : Nat → Int × Int × (List (List Int)) → Option (Bool × Int × (List (List Int)))
  | 0, _ => none
  | N + 1, v => (fcP fcI (fcP fcI (fcL (fcL fcI)))).f v fun (v, v4294967296, v42949672962) => cond (decide (v < (0 : Int)))
   (some (true, (v4294967296, v42949672962)))
   (some ((decide (v4294967296 ≤ v)), (v4294967296, v42949672962)))
theorem q_m_forest_thereF1_phh : ∀ (N : Nat) (v : Int × Int × (List (List Int))), m_forest_thereF1_phh N v = t_forest_thereF1_phh N v
  | 0, _ => by kernel_rfl
  | N + 1, (v, v4294967296, v42949672962) => by
    rw [m_forest_thereF1_phh_eq, t_forest_thereF1_phh, (fcP fcI (fcP fcI (fcL (fcL fcI)))).ok]
    all_goals first | rfl | (simp only [bitI_eq, dem_D]; done) | (simp only [bitI_eq, dem_D]; rfl)
def tl_slices_IndexFunc_Lint_int_forest_thereF1_f58phh_1 (N : Nat) : Nat → (List Int) × Int × Int × Int × (List (List Int)) → Option ((Int × (List (List Int))) ⊕ (Int × Int × (List (List Int))))
  | 0, _ => none
  | m + 1, v => (fcP (fcL fcI) (fcP fcI (fcP fcI (fcP fcI (fcL (fcL fcI)))))).f v fun (s, v7, v8, f, f2) => cond (decide (v8 < v7))
   (obind (nthI s v8) fun z1 =>
    obind (t_forest_thereF1_phh N (z1, (f, f2))) fun z2 =>
    cond z2.1
     (some (.inr (v8, (z2.2.1, z2.2.2))))
     ((tl_slices_IndexFunc_Lint_int_forest_thereF1_f58phh_1 N m (s, (v7, ((IntKind.wrap .i64 (v8 + (1 : Int))), (z2.2.1, z2.2.2)))))))
   (some (.inl (f, f2)))
theorem q_l_slices_IndexFunc_Lint_int_forest_thereF1_f58phh_1 (N : Nat) : ∀ (m : Nat) (v : (List Int) × Int × Int × Int × (List (List Int))), l_slices_IndexFunc_Lint_int_forest_thereF1_f58phh_1 N m v = tl_slices_IndexFunc_Lint_int_forest_thereF1_f58phh_1 N m v
  | 0, _ => by kernel_rfl
  | m + 1, (s, v7, v8, f, f2) => by
    rw [l_slices_IndexFunc_Lint_int_forest_thereF1_f58phh_1_s, tl_slices_IndexFunc_Lint_int_forest_thereF1_f58phh_1, (fcP (fcL fcI) (fcP fcI (fcP fcI (fcP fcI (fcL (fcL fcI)))))).ok]
    all_goals first | rfl | (simp only [q_m_forest_thereF1_phh, bitI_eq, dem_D, q_l_slices_IndexFunc_Lint_int_forest_thereF1_f58phh_1 N m]; done) | (simp only [q_m_forest_thereF1_phh, bitI_eq, dem_D, q_l_slices_IndexFunc_Lint_int_forest_thereF1_f58phh_1 N m]; rfl)
def t_slices_IndexFunc_Lint_int_forest_thereF1_f58phh : Nat → (List Int) × Int × (List (List Int)) → Option (Int × Int × (List (List Int)))
  | 0, _ => none
  | N + 1, v => (fcP (fcL fcI) (fcP fcI (fcL (fcL fcI)))).f v fun (s, f, f2) => obind (tl_slices_IndexFunc_Lint_int_forest_thereF1_f58phh_1 N N (s, ((((List.length s) : Nat) : Int), ((0 : Int), (f, f2))))) fun z1 =>
  (match z1 with
  | .inl zy2 => some ((-(1 : Int)), (zy2.1, zy2.2))
  | .inr zy3 => some (zy3.1, (zy3.2.1, zy3.2.2)))
theorem q_m_slices_IndexFunc_Lint_int_forest_thereF1_f58phh : ∀ (N : Nat) (v : (List Int) × Int × (List (List Int))), m_slices_IndexFunc_Lint_int_forest_thereF1_f58phh N v = t_slices_IndexFunc_Lint_int_forest_thereF1_f58phh N v
  | 0, _ => by kernel_rfl
  | N + 1, (s, f, f2) => by
    rw [m_slices_IndexFunc_Lint_int_forest_thereF1_f58phh_eq, t_slices_IndexFunc_Lint_int_forest_thereF1_f58phh, (fcP (fcL fcI) (fcP fcI (fcL (fcL fcI)))).ok]
    all_goals first | rfl | (simp only [q_l_slices_IndexFunc_Lint_int_forest_thereF1_f58phh_1, bitI_eq, dem_D]; done) | (simp only [q_l_slices_IndexFunc_Lint_int_forest_thereF1_f58phh_1, bitI_eq, dem_D]; rfl)
def t_slices_ContainsFunc_Lint_int_forest_thereF1_f58phh : Nat → (List Int) × Int × (List (List Int)) → Option (Bool × Int × (List (List Int)))
  | 0, _ => none
  | N + 1, v => (fcP (fcL fcI) (fcP fcI (fcL (fcL fcI)))).f v fun (s, f, f2) => obind (t_slices_IndexFunc_Lint_int_forest_thereF1_f58phh N (s, (f, f2))) fun z1 =>
  some ((decide ((0 : Int) ≤ z1.1)), (z1.2.1, z1.2.2))
theorem q_m_slices_ContainsFunc_Lint_int_forest_thereF1_f58phh : ∀ (N : Nat) (v : (List Int) × Int × (List (List Int))), m_slices_ContainsFunc_Lint_int_forest_thereF1_f58phh N v = t_slices_ContainsFunc_Lint_int_forest_thereF1_f58phh N v
  | 0, _ => by kernel_rfl
  | N + 1, (s, f, f2) => by
    rw [m_slices_ContainsFunc_Lint_int_forest_thereF1_f58phh_eq, t_slices_ContainsFunc_Lint_int_forest_thereF1_f58phh, (fcP (fcL fcI) (fcP fcI (fcL (fcL fcI)))).ok]
    all_goals first | rfl | (simp only [q_m_slices_IndexFunc_Lint_int_forest_thereF1_f58phh, bitI_eq, dem_D]; done) | (simp only [q_m_slices_IndexFunc_Lint_int_forest_thereF1_f58phh, bitI_eq, dem_D]; rfl)
def t_forest_there : Nat → Int × (List (List Int)) × (List Int) → Option (Int)
  | 0, _ => none
  | N + 1, v => (fcP fcI (fcP (fcL (fcL fcI)) (fcL fcI))).f v fun (f, f2, vertices) => obind (t_tour_Right N (f, f2)) fun z1 =>
  cond (!z1)
   (some (1 : Int))
   (obind (t_slices_ContainsFunc_Lint_int_forest_thereF1_f58phh N (vertices, (f, f2))) fun z2 =>
    cond z2.1
     (some (10 : Int))
     (some (0 : Int)))
theorem q_m_forest_there : ∀ (N : Nat) (v : Int × (List (List Int)) × (List Int)), m_forest_there N v = t_forest_there N v
  | 0, _ => by kernel_rfl
  | N + 1, (f, f2, vertices) => by
    rw [m_forest_there_eq, t_forest_there, (fcP fcI (fcP (fcL (fcL fcI)) (fcL fcI))).ok]
    all_goals first | rfl | (simp only [q_m_slices_ContainsFunc_Lint_int_forest_thereF1_f58phh, q_m_tour_Right, bitI_eq, dem_D]; done) | (simp only [q_m_slices_ContainsFunc_Lint_int_forest_thereF1_f58phh, q_m_tour_Right, bitI_eq, dem_D]; rfl)
def tl_slices_Index_Lint_int_1 (N : Nat) : Nat → (List Int) × Int × Int × Int → Option ((Unit) ⊕ (Int))
  | 0, _ => none
  | m + 1, v => (fcP (fcL fcI) (fcP fcI (fcP fcI fcI))).f v fun (s, v, v7, v8) => cond (decide (v8 < v7))
   (obind (nthI s v8) fun z1 =>
    cond (decide (v = z1))
     (some (.inr v8))
     ((tl_slices_Index_Lint_int_1 N m (s, (v, (v7, (IntKind.wrap .i64 (v8 + (1 : Int)))))))))
   (some (.inl ()))
theorem q_l_slices_Index_Lint_int_1 (N : Nat) : ∀ (m : Nat) (v : (List Int) × Int × Int × Int), l_slices_Index_Lint_int_1 N m v = tl_slices_Index_Lint_int_1 N m v
  | 0, _ => by kernel_rfl
  | m + 1, (s, v, v7, v8) => by
    rw [l_slices_Index_Lint_int_1_s, tl_slices_Index_Lint_int_1, (fcP (fcL fcI) (fcP fcI (fcP fcI fcI))).ok]
    all_goals first | rfl | (simp only [bitI_eq, dem_D, q_l_slices_Index_Lint_int_1 N m]; done) | (simp only [bitI_eq, dem_D, q_l_slices_Index_Lint_int_1 N m]; rfl)
def t_slices_Index_Lint_int : Nat → (List Int) × Int → Option (Int)
  | 0, _ => none
  | N + 1, v => (fcP (fcL fcI) fcI).f v fun (s, v) => obind (tl_slices_Index_Lint_int_1 N N (s, (v, ((((List.length s) : Nat) : Int), (0 : Int))))) fun z1 =>
  (match z1 with
  | .inl zy2 => some (-(1 : Int))
  | .inr zy3 => some zy3)
theorem q_m_slices_Index_Lint_int : ∀ (N : Nat) (v : (List Int) × Int), m_slices_Index_Lint_int N v = t_slices_Index_Lint_int N v
  | 0, _ => by kernel_rfl
  | N + 1, (s, v) => by
    rw [m_slices_Index_Lint_int_eq, t_slices_Index_Lint_int, (fcP (fcL fcI) fcI).ok]
    all_goals first | rfl | (simp only [q_l_slices_Index_Lint_int_1, bitI_eq, dem_D]; done) | (simp only [q_l_slices_Index_Lint_int_1, bitI_eq, dem_D]; rfl)
def t_slices_Contains_Lint_int : Nat → (List Int) × Int → Option (Bool)
  | 0, _ => none
  | N + 1, v => (fcP (fcL fcI) fcI).f v fun (s, v) => obind (t_slices_Index_Lint_int N (s, v)) fun z1 =>
  some (decide ((0 : Int) ≤ z1))
theorem q_m_slices_Contains_Lint_int : ∀ (N : Nat) (v : (List Int) × Int), m_slices_Contains_Lint_int N v = t_slices_Contains_Lint_int N v
  | 0, _ => by kernel_rfl
  | N + 1, (s, v) => by
    rw [m_slices_Contains_Lint_int_eq, t_slices_Contains_Lint_int, (fcP (fcL fcI) fcI).ok]
    all_goals first | rfl | (simp only [q_m_slices_Index_Lint_int, bitI_eq, dem_D]; done) | (simp only [q_m_slices_Index_Lint_int, bitI_eq, dem_D]; rfl)
def t_tour_placeF1_ph : Nat → (List Int) × Int → Option (Bool × Int)
  | 0, _ => none
  | N + 1, v => (fcP (fcL fcI) fcI).f v fun (l, v4294967296) => obind (t_slices_Contains_Lint_int N (l, v4294967296)) fun z1 =>
  some (z1, v4294967296)
theorem q_m_tour_placeF1_ph : ∀ (N : Nat) (v : (List Int) × Int), m_tour_placeF1_ph N v = t_tour_placeF1_ph N v
  | 0, _ => by kernel_rfl
  | N + 1, (l, v4294967296) => by
    rw [m_tour_placeF1_ph_eq, t_tour_placeF1_ph, (fcP (fcL fcI) fcI).ok]
    all_goals first | rfl | (simp only [q_m_slices_Contains_Lint_int, bitI_eq, dem_D]; done) | (simp only [q_m_slices_Contains_Lint_int, bitI_eq, dem_D]; rfl)
def tl_slices_IndexFunc_LLint_Lint_tour_placeF1_f68ph_1 (N : Nat) : Nat → (List (List Int)) × Int × Int × Int → Option ((Int) ⊕ (Int × Int))
  | 0, _ => none
  | m + 1, v => (fcP (fcL (fcL fcI)) (fcP fcI (fcP fcI fcI))).f v fun (s, v7, v8, f) => cond (decide (v8 < v7))
   (obind (nthI s v8) fun z1 =>
    obind (t_tour_placeF1_ph N (z1, f)) fun z2 =>
    cond z2.1
     (some (.inr (v8, z2.2)))
     ((tl_slices_IndexFunc_LLint_Lint_tour_placeF1_f68ph_1 N m (s, (v7, ((IntKind.wrap .i64 (v8 + (1 : Int))), z2.2))))))
   (some (.inl f))
theorem q_l_slices_IndexFunc_LLint_Lint_tour_placeF1_f68ph_1 (N : Nat) : ∀ (m : Nat) (v : (List (List Int)) × Int × Int × Int), l_slices_IndexFunc_LLint_Lint_tour_placeF1_f68ph_1 N m v = tl_slices_IndexFunc_LLint_Lint_tour_placeF1_f68ph_1 N m v
  | 0, _ => by kernel_rfl
  | m + 1, (s, v7, v8, f) => by
    rw [l_slices_IndexFunc_LLint_Lint_tour_placeF1_f68ph_1_s, tl_slices_IndexFunc_LLint_Lint_tour_placeF1_f68ph_1, (fcP (fcL (fcL fcI)) (fcP fcI (fcP fcI fcI))).ok]
    all_goals first | rfl | (simp only [q_m_tour_placeF1_ph, bitI_eq, dem_D, q_l_slices_IndexFunc_LLint_Lint_tour_placeF1_f68ph_1 N m]; done) | (simp only [q_m_tour_placeF1_ph, bitI_eq, dem_D, q_l_slices_IndexFunc_LLint_Lint_tour_placeF1_f68ph_1 N m]; rfl)
def t_slices_IndexFunc_LLint_Lint_tour_placeF1_f68ph : Nat → (List (List Int)) × Int → Option (Int × Int)
  | 0, _ => none
  | N + 1, v => (fcP (fcL (fcL fcI)) fcI).f v fun (s, f) => obind (tl_slices_IndexFunc_LLint_Lint_tour_placeF1_f68ph_1 N N (s, ((((List.length s) : Nat) : Int), ((0 : Int), f)))) fun z1 =>
  (match z1 with
  | .inl zy2 => some ((-(1 : Int)), zy2)
  | .inr zy3 => some (zy3.1, zy3.2))
theorem q_m_slices_IndexFunc_LLint_Lint_tour_placeF1_f68ph : ∀ (N : Nat) (v : (List (List Int)) × Int), m_slices_IndexFunc_LLint_Lint_tour_placeF1_f68ph N v = t_slices_IndexFunc_LLint_Lint_tour_placeF1_f68ph N v
  | 0, _ => by kernel_rfl
  | N + 1, (s, f) => by
    rw [m_slices_IndexFunc_LLint_Lint_tour_placeF1_f68ph_eq, t_slices_IndexFunc_LLint_Lint_tour_placeF1_f68ph, (fcP (fcL (fcL fcI)) fcI).ok]
    all_goals first | rfl | (simp only [q_l_slices_IndexFunc_LLint_Lint_tour_placeF1_f68ph_1, bitI_eq, dem_D]; done) | (simp only [q_l_slices_IndexFunc_LLint_Lint_tour_placeF1_f68ph_1, bitI_eq, dem_D]; rfl)
def t_tour_place : Nat → Int × (List (List Int)) × Int → Option (Int)
  | 0, _ => none
  | N + 1, v => (fcP fcI (fcP (fcL (fcL fcI)) fcI)).f v fun (f, f2, v) => obind (t_slices_IndexFunc_LLint_Lint_tour_placeF1_f68ph N (f2, v)) fun z1 =>
  some z1.1
theorem q_m_tour_place : ∀ (N : Nat) (v : Int × (List (List Int)) × Int), m_tour_place N v = t_tour_place N v
  | 0, _ => by kernel_rfl
  | N + 1, (f, f2, v) => by
    rw [m_tour_place_eq, t_tour_place, (fcP fcI (fcP (fcL (fcL fcI)) fcI)).ok]
    all_goals first | rfl | (simp only [q_m_slices_IndexFunc_LLint_Lint_tour_placeF1_f68ph, bitI_eq, dem_D]; done) | (simp only [q_m_slices_IndexFunc_LLint_Lint_tour_placeF1_f68ph, bitI_eq, dem_D]; rfl)
def t_tour_Of : Nat → Int × (List (List Int)) × Int → Option (Int)
  | 0, _ => none
  | N + 1, v => (fcP fcI (fcP (fcL (fcL fcI)) fcI)).f v fun (f, f2, v) => obind (t_tour_in N (f, v)) fun z1 =>
  cond (!z1)
   (some (-(1 : Int)))
   (obind (t_tour_Right N (f, f2)) fun z2 =>
    cond (!z2)
     (some (-(1 : Int)))
     (obind (t_tour_place N (f, (f2, v))) fun z3 =>
      some z3))
theorem q_m_tour_Of : ∀ (N : Nat) (v : Int × (List (List Int)) × Int), m_tour_Of N v = t_tour_Of N v
  | 0, _ => by kernel_rfl
  | N + 1, (f, f2, v) => by
    rw [m_tour_Of_eq, t_tour_Of, (fcP fcI (fcP (fcL (fcL fcI)) fcI)).ok]
    all_goals first | rfl | (simp only [q_m_tour_Right, q_m_tour_in, q_m_tour_place, bitI_eq, dem_D]; done) | (simp only [q_m_tour_Right, q_m_tour_in, q_m_tour_place, bitI_eq, dem_D]; rfl)
def t_forest_Least : Nat → Int × (List (List Int)) × Int → Option (Int × Int)
  | 0, _ => none
  | N + 1, v => (fcP fcI (fcP (fcL (fcL fcI)) fcI)).f v fun (f, f2, v) => obind (t_forest_there N (f, (f2, [v]))) fun z1 =>
  cond (!(decide (z1 = (0 : Int))))
   (some ((0 : Int), z1))
   (obind (t_tour_Of N (f, (f2, v))) fun z2 =>
    obind (nthI f2 z2) fun z3 =>
    obind (nthI z3 (0 : Int)) fun z4 =>
    some (z4, (0 : Int)))
theorem q_m_forest_Least : ∀ (N : Nat) (v : Int × (List (List Int)) × Int), m_forest_Least N v = t_forest_Least N v
  | 0, _ => by kernel_rfl
  | N + 1, (f, f2, v) => by
    rw [m_forest_Least_eq, t_forest_Least, (fcP fcI (fcP (fcL (fcL fcI)) fcI)).ok]
    all_goals first | rfl | (simp only [q_m_forest_there, q_m_tour_Of, bitI_eq, dem_D]; done) | (simp only [q_m_forest_there, q_m_tour_Of, bitI_eq, dem_D]; rfl)
def tl_span_Contract_1 (N : Nat) : Nat → (List (Int × Int)) × Int × Int × Int × (List (List Int)) × (List (Int × Int)) → Option ((List (Int × Int)))
  | 0, _ => none
  | m + 1, v => (fcP (fcL (fcP fcI fcI)) (fcP fcI (fcP fcI (fcP fcI (fcP (fcL (fcL fcI)) (fcL (fcP fcI fcI))))))).f v fun (v24, v25, v26, f, f2, out) => cond (decide (v26 < v25))
   (obind (nthI v24 v26) fun z1 =>
    obind (t_forest_Least N (f, (f2, z1.1))) fun z2 =>
    obind (t_forest_Least N (f, (f2, z1.2))) fun z3 =>
    obind (appI (16 : Nat) out [(z2.1, z3.1)]) fun z4 =>
    (tl_span_Contract_1 N m (v24, (v25, ((IntKind.wrap .i64 (v26 + (1 : Int))), (f, (f2, z4)))))))
   (some out)
theorem q_l_span_Contract_1 (N : Nat) : ∀ (m : Nat) (v : (List (Int × Int)) × Int × Int × Int × (List (List Int)) × (List (Int × Int))), l_span_Contract_1 N m v = tl_span_Contract_1 N m v
  | 0, _ => by kernel_rfl
  | m + 1, (v24, v25, v26, f, f2, out) => by
    rw [l_span_Contract_1_s, tl_span_Contract_1, (fcP (fcL (fcP fcI fcI)) (fcP fcI (fcP fcI (fcP fcI (fcP (fcL (fcL fcI)) (fcL (fcP fcI fcI))))))).ok]
    all_goals first | rfl | (simp only [q_m_forest_Least, bitI_eq, dem_D, q_l_span_Contract_1 N m]; done) | (simp only [q_m_forest_Least, bitI_eq, dem_D, q_l_span_Contract_1 N m]; rfl)
def t_span_Contract : Nat → Int × (List (List Int)) × (List (Int × Int)) → Option (Int × (List (Int × Int)))
  | 0, _ => none
  | N + 1, v => (fcP fcI (fcP (fcL (fcL fcI)) (fcL (fcP fcI fcI)))).f v fun (f, f2, l) => obind (t_tour_Right N (f, f2)) fun z1 =>
  cond (!z1)
   (some ((1 : Int), []))
   (obind (t_span_asked N (f, l)) fun z2 =>
    cond (!(decide (z2 = (0 : Int))))
     (some (z2, []))
     (obind (tl_span_Contract_1 N N (l, ((((List.length l) : Nat) : Int), ((0 : Int), (f, (f2, [])))))) fun z3 =>
      some ((0 : Int), z3)))
theorem q_m_span_Contract : ∀ (N : Nat) (v : Int × (List (List Int)) × (List (Int × Int))), m_span_Contract N v = t_span_Contract N v
  | 0, _ => by kernel_rfl
  | N + 1, (f, f2, l) => by
    rw [m_span_Contract_eq, t_span_Contract, (fcP fcI (fcP (fcL (fcL fcI)) (fcL (fcP fcI fcI)))).ok]
    all_goals first | rfl | (simp only [q_l_span_Contract_1, q_m_span_asked, q_m_tour_Right, bitI_eq, dem_D]; done) | (simp only [q_l_span_Contract_1, q_m_span_asked, q_m_tour_Right, bitI_eq, dem_D]; rfl)
def tl_span_alone_1 (N : Nat) : Nat → Int × Int × (List Int) → Option ((List Int))
  | 0, _ => none
  | m + 1, v => (fcP fcI (fcP fcI (fcL fcI))).f v fun (v8, v9, s) => cond (decide (v9 < v8))
   (obind (nthI s v9) fun z1 =>
    obind (nthI s v9) fun z2 =>
    (tl_span_alone_1 N m (v8, ((IntKind.wrap .i64 (v9 + (1 : Int))), (List.set s (Int.toNat v9) v9)))))
   (some s)
theorem q_l_span_alone_1 (N : Nat) : ∀ (m : Nat) (v : Int × Int × (List Int)), l_span_alone_1 N m v = tl_span_alone_1 N m v
  | 0, _ => by kernel_rfl
  | m + 1, (v8, v9, s) => by
    rw [l_span_alone_1_s, tl_span_alone_1, (fcP fcI (fcP fcI (fcL fcI))).ok]
    all_goals first | rfl | (simp only [bitI_eq, dem_D, q_l_span_alone_1 N m]; done) | (simp only [bitI_eq, dem_D, q_l_span_alone_1 N m]; rfl)
def t_span_alone : Nat → Int → Option ((List Int))
  | 0, _ => none
  | N + 1, v => fcI.f v fun (n) => obind (makI n (8 : Nat)) fun z1 =>
  obind (tl_span_alone_1 N N ((((List.length (List.replicate z1 (0 : Int))) : Nat) : Int), ((0 : Int), (List.replicate z1 (0 : Int))))) fun z2 =>
  some z2
theorem q_m_span_alone : ∀ (N : Nat) (v : Int), m_span_alone N v = t_span_alone N v
  | 0, _ => by kernel_rfl
  | N + 1, (n) => by
    rw [m_span_alone_eq, t_span_alone, fcI.ok]
    all_goals first | rfl | (simp only [q_l_span_alone_1, bitI_eq, dem_D]; done) | (simp only [q_l_span_alone_1, bitI_eq, dem_D]; rfl)
def tl__span_sets_least_o_1 (N : Nat) : Nat → Int × (List Int) → Option (Int × (List Int))
  | 0, _ => none
  | m + 1, v => (fcP fcI (fcL fcI)).f v fun (v, s) => obind (nthI s v) fun z1 =>
  obind (nthI s v) fun z2 =>
  cond (!(decide (z2 = v)))
   (obind (nthI s v) fun z3 =>
    obind (nthI s v) fun z4 =>
    obind (nthI s z4) fun z5 =>
    obind (nthI s z4) fun z6 =>
    obind (nthI s v) fun z7 =>
    obind (nthI s v) fun z8 =>
    obind (nthI (List.set s (Int.toNat v) z6) v) fun z9 =>
    obind (nthI (List.set s (Int.toNat v) z6) v) fun z10 =>
    (tl__span_sets_least_o_1 N m (z10, (List.set s (Int.toNat v) z6))))
   (some (v, s))
theorem q_l__span_sets_least_o_1 (N : Nat) : ∀ (m : Nat) (v : Int × (List Int)), l__span_sets_least_o_1 N m v = tl__span_sets_least_o_1 N m v
  | 0, _ => by kernel_rfl
  | m + 1, (v, s) => by
    rw [l__span_sets_least_o_1_s, tl__span_sets_least_o_1, (fcP fcI (fcL fcI)).ok]
    all_goals first | rfl | (simp only [bitI_eq, dem_D, q_l__span_sets_least_o_1 N m]; done) | (simp only [bitI_eq, dem_D, q_l__span_sets_least_o_1 N m]; rfl)
def t__span_sets_least_o : Nat → Int × (List Int) → Option (Int × (List Int))
  | 0, _ => none
  | N + 1, v => (fcP fcI (fcL fcI)).f v fun (v, s) => obind (tl__span_sets_least_o_1 N N (v, s)) fun z1 =>
  some (z1.1, z1.2)
theorem q_m__span_sets_least_o : ∀ (N : Nat) (v : Int × (List Int)), m__span_sets_least_o N v = t__span_sets_least_o N v
  | 0, _ => by kernel_rfl
  | N + 1, (v, s) => by
    rw [m__span_sets_least_o_eq, t__span_sets_least_o, (fcP fcI (fcL fcI)).ok]
    all_goals first | rfl | (simp only [q_l__span_sets_least_o_1, bitI_eq, dem_D]; done) | (simp only [q_l__span_sets_least_o_1, bitI_eq, dem_D]; rfl)
def t__span_sets_join_o : Nat → Int × Int × (List Int) → Option (Bool × (List Int))
  | 0, _ => none
  | N + 1, v => (fcP fcI (fcP fcI (fcL fcI))).f v fun (u, v, s) => obind (t__span_sets_least_o N (u, s)) fun z1 =>
  obind (t__span_sets_least_o N (v, z1.2)) fun z2 =>
  obind (nthI z2.2 (if (z2.1 > z1.1) then z2.1 else z1.1)) fun z3 =>
  obind (nthI z2.2 (if (z2.1 > z1.1) then z2.1 else z1.1)) fun z4 =>
  some ((!(decide (z1.1 = z2.1))), (List.set z2.2 (Int.toNat (if (z2.1 > z1.1) then z2.1 else z1.1)) (if (z2.1 < z1.1) then z2.1 else z1.1)))
theorem q_m__span_sets_join_o : ∀ (N : Nat) (v : Int × Int × (List Int)), m__span_sets_join_o N v = t__span_sets_join_o N v
  | 0, _ => by kernel_rfl
  | N + 1, (u, v, s) => by
    rw [m__span_sets_join_o_eq, t__span_sets_join_o, (fcP fcI (fcP fcI (fcL fcI))).ok]
    all_goals first | rfl | (simp only [q_m__span_sets_least_o, bitI_eq, dem_D]; done) | (simp only [q_m__span_sets_least_o, bitI_eq, dem_D]; rfl)
def tl_span_each__span_sets_join_f35o_1 (N : Nat) : Nat → (List (Int × Int)) × Int × Int × (List Int) × (List Bool) → Option ((List Bool) × (List Int))
  | 0, _ => none
  | m + 1, v => (fcP (fcL (fcP fcI fcI)) (fcP fcI (fcP fcI (fcP (fcL fcI) (fcL fcB))))).f v fun (v8, v9, v10, deed, out) => cond (decide (v10 < v9))
   (obind (nthI v8 v10) fun z1 =>
    obind (t__span_sets_join_o N (z1.1, (z1.2, deed))) fun z2 =>
    obind (appI (1 : Nat) out [z2.1]) fun z3 =>
    (tl_span_each__span_sets_join_f35o_1 N m (v8, (v9, ((IntKind.wrap .i64 (v10 + (1 : Int))), (z2.2, z3))))))
   (some (out, deed))
theorem q_l_span_each__span_sets_join_f35o_1 (N : Nat) : ∀ (m : Nat) (v : (List (Int × Int)) × Int × Int × (List Int) × (List Bool)), l_span_each__span_sets_join_f35o_1 N m v = tl_span_each__span_sets_join_f35o_1 N m v
  | 0, _ => by kernel_rfl
  | m + 1, (v8, v9, v10, deed, out) => by
    rw [l_span_each__span_sets_join_f35o_1_s, tl_span_each__span_sets_join_f35o_1, (fcP (fcL (fcP fcI fcI)) (fcP fcI (fcP fcI (fcP (fcL fcI) (fcL fcB))))).ok]
    all_goals first | rfl | (simp only [q_m__span_sets_join_o, bitI_eq, dem_D, q_l_span_each__span_sets_join_f35o_1 N m]; done) | (simp only [q_m__span_sets_join_o, bitI_eq, dem_D, q_l_span_each__span_sets_join_f35o_1 N m]; rfl)
def t_span_each__span_sets_join_f35o : Nat → (List (Int × Int)) × (List Int) → Option ((List Bool) × (List Int))
  | 0, _ => none
  | N + 1, v => (fcP (fcL (fcP fcI fcI)) (fcL fcI)).f v fun (l, deed) => obind (tl_span_each__span_sets_join_f35o_1 N N (l, ((((List.length l) : Nat) : Int), ((0 : Int), (deed, []))))) fun z1 =>
  some (z1.1, z1.2)
theorem q_m_span_each__span_sets_join_f35o : ∀ (N : Nat) (v : (List (Int × Int)) × (List Int)), m_span_each__span_sets_join_f35o N v = t_span_each__span_sets_join_f35o N v
  | 0, _ => by kernel_rfl
  | N + 1, (l, deed) => by
    rw [m_span_each__span_sets_join_f35o_eq, t_span_each__span_sets_join_f35o, (fcP (fcL (fcP fcI fcI)) (fcL fcI)).ok]
    all_goals first | rfl | (simp only [q_l_span_each__span_sets_join_f35o_1, bitI_eq, dem_D]; done) | (simp only [q_l_span_each__span_sets_join_f35o_1, bitI_eq, dem_D]; rfl)
def t__span_sets_joins_o : Nat → (List (Int × Int)) × (List Int) → Option ((List Bool) × (List Int))
  | 0, _ => none
  | N + 1, v => (fcP (fcL (fcP fcI fcI)) (fcL fcI)).f v fun (l, s) => obind (t_span_each__span_sets_join_f35o N (l, s)) fun z1 =>
  some (z1.1, z1.2)
theorem q_m__span_sets_joins_o : ∀ (N : Nat) (v : (List (Int × Int)) × (List Int)), m__span_sets_joins_o N v = t__span_sets_joins_o N v
  | 0, _ => by kernel_rfl
  | N + 1, (l, s) => by
    rw [m__span_sets_joins_o_eq, t__span_sets_joins_o, (fcP (fcL (fcP fcI fcI)) (fcL fcI)).ok]
    all_goals first | rfl | (simp only [q_m_span_each__span_sets_join_f35o, bitI_eq, dem_D]; done) | (simp only [q_m_span_each__span_sets_join_f35o, bitI_eq, dem_D]; rfl)
def t_span_Choose : Nat → Int × (List (List Int)) × (List (Int × Int)) → Option (Int × (List Bool))
  | 0, _ => none
  | N + 1, v => (fcP fcI (fcP (fcL (fcL fcI)) (fcL (fcP fcI fcI)))).f v fun (f, f2, l) => obind (t_span_Contract N (f, (f2, l))) fun z1 =>
  cond (!(decide (z1.1 = (0 : Int))))
   (some (z1.1, []))
   (obind (t_span_alone N f) fun z2 =>
    obind (t__span_sets_joins_o N (z1.2, z2)) fun z3 =>
    some ((0 : Int), z3.1))
theorem q_m_span_Choose : ∀ (N : Nat) (v : Int × (List (List Int)) × (List (Int × Int))), m_span_Choose N v = t_span_Choose N v
  | 0, _ => by kernel_rfl
  | N + 1, (f, f2, l) => by
    rw [m_span_Choose_eq, t_span_Choose, (fcP fcI (fcP (fcL (fcL fcI)) (fcL (fcP fcI fcI)))).ok]
    all_goals first | rfl | (simp only [q_m__span_sets_joins_o, q_m_span_Contract, q_m_span_alone, bitI_eq, dem_D]; done) | (simp only [q_m__span_sets_joins_o, q_m_span_Contract, q_m_span_alone, bitI_eq, dem_D]; rfl)
def tl_span_Classes_1 (N : Nat) : Nat → Int × Int × (List Int) → Option ((List Int))
  | 0, _ => none
  | m + 1, v => (fcP fcI (fcP fcI (fcL fcI))).f v fun (v21, v22, s) => cond (decide (v22 < v21))
   (obind (t__span_sets_least_o N (v22, s)) fun z1 =>
    obind (nthI z1.2 v22) fun z2 =>
    obind (nthI z1.2 v22) fun z3 =>
    (tl_span_Classes_1 N m (v21, ((IntKind.wrap .i64 (v22 + (1 : Int))), (List.set z1.2 (Int.toNat v22) z1.1)))))
   (some s)
theorem q_l_span_Classes_1 (N : Nat) : ∀ (m : Nat) (v : Int × Int × (List Int)), l_span_Classes_1 N m v = tl_span_Classes_1 N m v
  | 0, _ => by kernel_rfl
  | m + 1, (v21, v22, s) => by
    rw [l_span_Classes_1_s, tl_span_Classes_1, (fcP fcI (fcP fcI (fcL fcI))).ok]
    all_goals first | rfl | (simp only [q_m__span_sets_least_o, bitI_eq, dem_D, q_l_span_Classes_1 N m]; done) | (simp only [q_m__span_sets_least_o, bitI_eq, dem_D, q_l_span_Classes_1 N m]; rfl)
def t_span_Classes : Nat → Int × (List (Int × Int)) → Option (Int × (List Int))
  | 0, _ => none
  | N + 1, v => (fcP fcI (fcL (fcP fcI fcI))).f v fun (n, l) => obind (t_span_asked N (n, l)) fun z1 =>
  cond (!(decide (z1 = (0 : Int))))
   (some (z1, []))
   (obind (t_span_alone N n) fun z2 =>
    obind (t__span_sets_joins_o N (l, z2)) fun z3 =>
    obind (tl_span_Classes_1 N N ((((List.length z3.2) : Nat) : Int), ((0 : Int), z3.2))) fun z4 =>
    some ((0 : Int), z4))
theorem q_m_span_Classes : ∀ (N : Nat) (v : Int × (List (Int × Int))), m_span_Classes N v = t_span_Classes N v
  | 0, _ => by kernel_rfl
  | N + 1, (n, l) => by
    rw [m_span_Classes_eq, t_span_Classes, (fcP fcI (fcL (fcP fcI fcI))).ok]
    all_goals first | rfl | (simp only [q_l_span_Classes_1, q_m__span_sets_joins_o, q_m_span_alone, q_m_span_asked, bitI_eq, dem_D]; done) | (simp only [q_l_span_Classes_1, q_m__span_sets_joins_o, q_m_span_alone, q_m_span_asked, bitI_eq, dem_D]; rfl)
def tl_span_Spanning_1 (N : Nat) : Nat → (List (Int × Int)) × Int × Int × (List (Int × Int)) × (List Bool) → Option ((List (Int × Int)))
  | 0, _ => none
  | m + 1, v => (fcP (fcL (fcP fcI fcI)) (fcP fcI (fcP fcI (fcP (fcL (fcP fcI fcI)) (fcL fcB))))).f v fun (l, v20, v21, out, v19) => cond (decide (v21 < v20))
   (obind (nthI v19 v21) fun z1 =>
    obind (nthI v19 v21) fun z2 =>
    cond z2
     (obind (nthI l v21) fun z3 =>
      obind (appI (16 : Nat) out [(z3.1, z3.2)]) fun z4 =>
      (tl_span_Spanning_1 N m (l, (v20, ((IntKind.wrap .i64 (v21 + (1 : Int))), (z4, v19))))))
     ((tl_span_Spanning_1 N m (l, (v20, ((IntKind.wrap .i64 (v21 + (1 : Int))), (out, v19)))))))
   (some out)
theorem q_l_span_Spanning_1 (N : Nat) : ∀ (m : Nat) (v : (List (Int × Int)) × Int × Int × (List (Int × Int)) × (List Bool)), l_span_Spanning_1 N m v = tl_span_Spanning_1 N m v
  | 0, _ => by kernel_rfl
  | m + 1, (l, v20, v21, out, v19) => by
    rw [l_span_Spanning_1_s, tl_span_Spanning_1, (fcP (fcL (fcP fcI fcI)) (fcP fcI (fcP fcI (fcP (fcL (fcP fcI fcI)) (fcL fcB))))).ok]
    all_goals first | rfl | (simp only [bitI_eq, dem_D, q_l_span_Spanning_1 N m]; done) | (simp only [bitI_eq, dem_D, q_l_span_Spanning_1 N m]; rfl)
def t_span_Spanning : Nat → Int × (List (Int × Int)) → Option (Int × (List (Int × Int)))
  | 0, _ => none
  | N + 1, v => (fcP fcI (fcL (fcP fcI fcI))).f v fun (n, l) => obind (t_span_asked N (n, l)) fun z1 =>
  cond (!(decide (z1 = (0 : Int))))
   (some (z1, []))
   (obind (t_span_alone N n) fun z2 =>
    obind (t__span_sets_joins_o N (l, z2)) fun z3 =>
    obind (tl_span_Spanning_1 N N (l, ((((List.length z3.1) : Nat) : Int), ((0 : Int), ([], z3.1))))) fun z4 =>
    some ((0 : Int), z4))
theorem q_m_span_Spanning : ∀ (N : Nat) (v : Int × (List (Int × Int))), m_span_Spanning N v = t_span_Spanning N v
  | 0, _ => by kernel_rfl
  | N + 1, (n, l) => by
    rw [m_span_Spanning_eq, t_span_Spanning, (fcP fcI (fcL (fcP fcI fcI))).ok]
    all_goals first | rfl | (simp only [q_l_span_Spanning_1, q_m__span_sets_joins_o, q_m_span_alone, q_m_span_asked, bitI_eq, dem_D]; done) | (simp only [q_l_span_Spanning_1, q_m__span_sets_joins_o, q_m_span_alone, q_m_span_asked, bitI_eq, dem_D]; rfl)
def tl_span_Count_1 (N : Nat) : Nat → Int × Int × Int × Int × (List Int) → Option (Int × Int)
  | 0, _ => none
  | m + 1, v => (fcP fcI (fcP fcI (fcP fcI (fcP fcI (fcL fcI))))).f v fun (e, k, v18, v19, v17) => cond (decide (v19 < v18))
   (obind (nthI v17 v19) fun z1 =>
    obind (nthI v17 v19) fun z2 =>
    cond (decide (z2 = v19))
     ((tl_span_Count_1 N m (e, ((IntKind.wrap .i64 (k + (1 : Int))), (v18, ((IntKind.wrap .i64 (v19 + (1 : Int))), v17))))))
     ((tl_span_Count_1 N m (e, (k, (v18, ((IntKind.wrap .i64 (v19 + (1 : Int))), v17)))))))
   (some (e, k))
theorem q_l_span_Count_1 (N : Nat) : ∀ (m : Nat) (v : Int × Int × Int × Int × (List Int)), l_span_Count_1 N m v = tl_span_Count_1 N m v
  | 0, _ => by kernel_rfl
  | m + 1, (e, k, v18, v19, v17) => by
    rw [l_span_Count_1_s, tl_span_Count_1, (fcP fcI (fcP fcI (fcP fcI (fcP fcI (fcL fcI))))).ok]
    all_goals first | rfl | (simp only [bitI_eq, dem_D, q_l_span_Count_1 N m]; done) | (simp only [bitI_eq, dem_D, q_l_span_Count_1 N m]; rfl)
def t_span_Count : Nat → Int × (List (Int × Int)) → Option (Int × Int)
  | 0, _ => none
  | N + 1, v => (fcP fcI (fcL (fcP fcI fcI))).f v fun (n, l) => obind (t_span_Classes N (n, l)) fun z1 =>
  obind (tl_span_Count_1 N N (z1.1, ((0 : Int), ((((List.length z1.2) : Nat) : Int), ((0 : Int), z1.2))))) fun z2 =>
  some (z2.2, z2.1)
theorem q_m_span_Count : ∀ (N : Nat) (v : Int × (List (Int × Int))), m_span_Count N v = t_span_Count N v
  | 0, _ => by kernel_rfl
  | N + 1, (n, l) => by
    rw [m_span_Count_eq, t_span_Count, (fcP fcI (fcL (fcP fcI fcI))).ok]
    all_goals first | rfl | (simp only [q_l_span_Count_1, q_m_span_Classes, bitI_eq, dem_D]; done) | (simp only [q_l_span_Count_1, q_m_span_Classes, bitI_eq, dem_D]; rfl)
def tl_ref19_Bools_1 (N : Nat) : Nat → (List Bool) × (List Bool) × Int → Option ((Unit) ⊕ (Bool))
  | 0, _ => none
  | m + 1, v => (fcP (fcL fcB) (fcP (fcL fcB) fcI)).f v fun (a, b, i) => cond (decide (i < (((List.length a) : Nat) : Int)))
   (obind (nthI a i) fun z1 =>
    obind (nthI b i) fun z2 =>
    cond (!(z1 == z2))
     (some (.inr false))
     ((tl_ref19_Bools_1 N m (a, (b, (IntKind.wrap .i64 (i + (1 : Int))))))))
   (some (.inl ()))
theorem q_l_ref19_Bools_1 (N : Nat) : ∀ (m : Nat) (v : (List Bool) × (List Bool) × Int), l_ref19_Bools_1 N m v = tl_ref19_Bools_1 N m v
  | 0, _ => by kernel_rfl
  | m + 1, (a, b, i) => by
    rw [l_ref19_Bools_1_s, tl_ref19_Bools_1, (fcP (fcL fcB) (fcP (fcL fcB) fcI)).ok]
    all_goals first | rfl | (simp only [bitI_eq, dem_D, q_l_ref19_Bools_1 N m]; done) | (simp only [bitI_eq, dem_D, q_l_ref19_Bools_1 N m]; rfl)
def t_ref19_Bools : Nat → (List Bool) × (List Bool) → Option (Bool)
  | 0, _ => none
  | N + 1, v => (fcP (fcL fcB) (fcL fcB)).f v fun (a, b) => cond (!(decide ((((List.length a) : Nat) : Int) = (((List.length b) : Nat) : Int))))
   (some false)
   (obind (tl_ref19_Bools_1 N N (a, (b, (0 : Int)))) fun z1 =>
    (match z1 with
    | .inl zy2 => some true
    | .inr zy3 => some zy3))
theorem q_m_ref19_Bools : ∀ (N : Nat) (v : (List Bool) × (List Bool)), m_ref19_Bools N v = t_ref19_Bools N v
  | 0, _ => by kernel_rfl
  | N + 1, (a, b) => by
    rw [m_ref19_Bools_eq, t_ref19_Bools, (fcP (fcL fcB) (fcL fcB)).ok]
    all_goals first | rfl | (simp only [q_l_ref19_Bools_1, bitI_eq, dem_D]; done) | (simp only [q_l_ref19_Bools_1, bitI_eq, dem_D]; rfl)
def tl_ref11_Same_1 (N : Nat) : Nat → (List (Int × Int)) × (List (Int × Int)) × Int → Option ((Unit) ⊕ (Bool))
  | 0, _ => none
  | m + 1, v => (fcP (fcL (fcP fcI fcI)) (fcP (fcL (fcP fcI fcI)) fcI)).f v fun (a, b, i) => cond (decide (i < (((List.length a) : Nat) : Int)))
   (obind (nthI a i) fun z1 =>
    obind (nthI b i) fun z2 =>
    cond (!((decide (z1.1 = z2.1)) && (decide (z1.2 = z2.2))))
     (some (.inr false))
     ((tl_ref11_Same_1 N m (a, (b, (IntKind.wrap .i64 (i + (1 : Int))))))))
   (some (.inl ()))
theorem q_l_ref11_Same_1 (N : Nat) : ∀ (m : Nat) (v : (List (Int × Int)) × (List (Int × Int)) × Int), l_ref11_Same_1 N m v = tl_ref11_Same_1 N m v
  | 0, _ => by kernel_rfl
  | m + 1, (a, b, i) => by
    rw [l_ref11_Same_1_s, tl_ref11_Same_1, (fcP (fcL (fcP fcI fcI)) (fcP (fcL (fcP fcI fcI)) fcI)).ok]
    all_goals first | rfl | (simp only [bitI_eq, dem_D, q_l_ref11_Same_1 N m]; done) | (simp only [bitI_eq, dem_D, q_l_ref11_Same_1 N m]; rfl)
def t_ref11_Same : Nat → (List (Int × Int)) × (List (Int × Int)) → Option (Bool)
  | 0, _ => none
  | N + 1, v => (fcP (fcL (fcP fcI fcI)) (fcL (fcP fcI fcI))).f v fun (a, b) => cond (!(decide ((((List.length a) : Nat) : Int) = (((List.length b) : Nat) : Int))))
   (some false)
   (obind (tl_ref11_Same_1 N N (a, (b, (0 : Int)))) fun z1 =>
    (match z1 with
    | .inl zy2 => some true
    | .inr zy3 => some zy3))
theorem q_m_ref11_Same : ∀ (N : Nat) (v : (List (Int × Int)) × (List (Int × Int))), m_ref11_Same N v = t_ref11_Same N v
  | 0, _ => by kernel_rfl
  | N + 1, (a, b) => by
    rw [m_ref11_Same_eq, t_ref11_Same, (fcP (fcL (fcP fcI fcI)) (fcL (fcP fcI fcI))).ok]
    all_goals first | rfl | (simp only [q_l_ref11_Same_1, bitI_eq, dem_D]; done) | (simp only [q_l_ref11_Same_1, bitI_eq, dem_D]; rfl)
def t_law20_alive : Nat → Unit → Option (Bool)
  | 0, _ => none
  | N + 1, v => fcU.f v fun _ => obind (t_ref19_Of N ((5 : Int), [((1 : Int), (0 : Int))])) fun z1 =>
  obind (t_span_Choose N (z1.2.1, (z1.2.2, ([((2 : Int), (1 : Int)), ((1 : Int), (2 : Int)), ((1 : Int), (3 : Int)), ((0 : Int), (0 : Int))] ++ [((0 : Int), (2 : Int))])))) fun z2 =>
  obind (t_span_Contract N (z1.2.1, (z1.2.2, [((2 : Int), (1 : Int)), ((1 : Int), (2 : Int)), ((1 : Int), (3 : Int)), ((0 : Int), (0 : Int))]))) fun z3 =>
  obind (t_span_Classes N ((5 : Int), [((2 : Int), (1 : Int)), ((1 : Int), (2 : Int)), ((1 : Int), (3 : Int)), ((0 : Int), (0 : Int))])) fun z4 =>
  obind (t_span_Spanning N ((5 : Int), [((2 : Int), (1 : Int)), ((1 : Int), (2 : Int)), ((1 : Int), (3 : Int)), ((0 : Int), (0 : Int))])) fun z5 =>
  obind (t_span_Count N ((5 : Int), [((2 : Int), (1 : Int)), ((1 : Int), (2 : Int)), ((1 : Int), (3 : Int)), ((0 : Int), (0 : Int))])) fun z6 =>
  obind (t_span_Count N ((3 : Int), [((2 : Int), (1 : Int)), ((1 : Int), (2 : Int)), ((1 : Int), (3 : Int)), ((0 : Int), (0 : Int))])) fun z7 =>
  obind (t_span_Classes N ((0 : Int), [])) fun z8 =>
  cond (decide (z2.1 = (0 : Int)))
   (cond (decide (z3.1 = (0 : Int)))
     (cond (decide (z4.1 = (0 : Int)))
       (cond (decide (z5.1 = (0 : Int)))
         (cond (decide (z6.2 = (0 : Int)))
           (cond (decide (z7.2 = (10 : Int)))
             (cond (decide (z8.1 = (1 : Int)))
               (obind (t_ref19_Bools N (z2.2, [true, false, true, false, false])) fun z9 =>
                cond z9
                 (obind (t_ref11_Same N (z3.2, [((2 : Int), (0 : Int)), ((0 : Int), (2 : Int)), ((0 : Int), (3 : Int)), ((0 : Int), (0 : Int))])) fun z10 =>
                  cond z10
                   (obind (t_ref01_Ints N (z4.2, [(0 : Int), (1 : Int), (1 : Int), (1 : Int), (4 : Int)])) fun z11 =>
                    cond z11
                     (obind (t_ref11_Same N (z5.2, [((2 : Int), (1 : Int)), ((1 : Int), (3 : Int))])) fun z12 =>
                      cond z12
                       (some (decide (z6.1 = (3 : Int))))
                       (some false))
                     (some false))
                   (some false))
                 (some false))
               (some false))
             (some false))
           (some false))
         (some false))
       (some false))
     (some false))
   (some false)
theorem q_m_law20_alive : ∀ (N : Nat) (v : Unit), m_law20_alive N v = t_law20_alive N v
  | 0, _ => by kernel_rfl
  | N + 1, _ => by
    rw [m_law20_alive_eq, t_law20_alive, fcU.ok]
    all_goals first | rfl | (simp only [q_m_ref01_Ints, q_m_ref11_Same, q_m_ref19_Bools, q_m_ref19_Of, q_m_span_Choose, q_m_span_Classes, q_m_span_Contract, q_m_span_Count, q_m_span_Spanning, bitI_eq, dem_D]; done) | (simp only [q_m_ref01_Ints, q_m_ref11_Same, q_m_ref19_Bools, q_m_ref19_Of, q_m_span_Choose, q_m_span_Classes, q_m_span_Contract, q_m_span_Count, q_m_span_Spanning, bitI_eq, dem_D]; rfl)
def t_law20_SpanFew : Nat → Int × (List (Int × Int)) × Int → Option (Bool)
  | 0, _ => none
  | N + 1, v => (fcP fcI (fcP (fcL (fcP fcI fcI)) fcI)).f v fun (n, l, k) => obind (t_law20_alive N ()) fun z1 =>
  cond (!z1)
   (some false)
   (cond (decide ((30 : Int) < (((List.length l) : Nat) : Int)))
     (some true)
     (obind (t_span_Spanning N ((IntKind.wrap .i64 ((1 : Int) + (Int.tmod (IntKind.wrap .i64 n) (12 : Int)))), l)) fun z2 =>
      cond (!(decide (z2.1 = (0 : Int))))
       (cond (decide (z2.1 = (10 : Int)))
         (some (decide ((((List.length z2.2) : Nat) : Int) = (0 : Int))))
         (some false))
       (obind (t_span_Classes N ((IntKind.wrap .i64 ((1 : Int) + (Int.tmod (IntKind.wrap .i64 n) (12 : Int)))), l)) fun z3 =>
        obind (t_span_Classes N ((IntKind.wrap .i64 ((1 : Int) + (Int.tmod (IntKind.wrap .i64 n) (12 : Int)))), z2.2)) fun z4 =>
        obind (t_span_Count N ((IntKind.wrap .i64 ((1 : Int) + (Int.tmod (IntKind.wrap .i64 n) (12 : Int)))), l)) fun z5 =>
        cond (!(decide (z3.1 = (0 : Int))))
         (some false)
         (cond (!(decide (z4.1 = (0 : Int))))
           (some false)
           (cond (!(decide (z5.2 = (0 : Int))))
             (some false)
             (obind (t_ref01_Ints N (z3.2, z4.2)) fun z6 =>
              cond (!z6)
               (some false)
               (cond (!(decide (z5.1 = (IntKind.wrap .i64 ((IntKind.wrap .i64 ((1 : Int) + (Int.tmod (IntKind.wrap .i64 n) (12 : Int)))) - (((List.length z2.2) : Nat) : Int))))))
                 (some false)
                 (cond (decide ((((List.length z2.2) : Nat) : Int) = (0 : Int)))
                   (some true)
                   (obind (remI (IntKind.wrap .i64 k) (((List.length z2.2) : Nat) : Int)) fun z7 =>
                    obind (subI z2.2 (0 : Int) z7) fun z8 =>
                    obind (appI (16 : Nat) [] z8) fun z9 =>
                    obind (subI z2.2 (IntKind.wrap .i64 (z7 + (1 : Int))) (((List.length z2.2) : Nat) : Int)) fun z10 =>
                    obind (appI (16 : Nat) z9 z10) fun z11 =>
                    obind (t_span_Count N ((IntKind.wrap .i64 ((1 : Int) + (Int.tmod (IntKind.wrap .i64 n) (12 : Int)))), z11)) fun z12 =>
                    cond (decide (z12.2 = (0 : Int)))
                     (some (decide (z12.1 = (IntKind.wrap .i64 (z5.1 + (1 : Int))))))
                     (some false))))))))))
theorem q_m_law20_SpanFew : ∀ (N : Nat) (v : Int × (List (Int × Int)) × Int), m_law20_SpanFew N v = t_law20_SpanFew N v
  | 0, _ => by kernel_rfl
  | N + 1, (n, l, k) => by
    rw [m_law20_SpanFew_eq, t_law20_SpanFew, (fcP fcI (fcP (fcL (fcP fcI fcI)) fcI)).ok]
    all_goals first | rfl | (simp only [q_m_law20_alive, q_m_ref01_Ints, q_m_span_Classes, q_m_span_Count, q_m_span_Spanning, bitI_eq, dem_D]; done) | (simp only [q_m_law20_alive, q_m_ref01_Ints, q_m_span_Classes, q_m_span_Count, q_m_span_Spanning, bitI_eq, dem_D]; rfl)
def tl_law20_SpanMore_1 (N : Nat) : Nat → Int × Int × Int × Int × Int × Int × (List Int) × (List (Int × Int)) × (List (Int × Int)) → Option (Int × Int × Int × Int × Int × Int × (List (Int × Int)) × (List (Int × Int)))
  | 0, _ => none
  | m + 1, v => (fcP fcI (fcP fcI (fcP fcI (fcP fcI (fcP fcI (fcP fcI (fcP (fcL fcI) (fcP (fcL (fcP fcI fcI)) (fcL (fcP fcI fcI)))))))))).f v fun (size, a, b, joins, x, x2, c, s, t) => obind (nthI c x) fun z1 =>
  obind (nthI c x) fun z2 =>
  obind (nthI c x2) fun z3 =>
  obind (nthI c x2) fun z4 =>
  cond (!(decide (z2 = z4)))
   (some (size, (a, (b, ((1 : Int), (x, (x2, (s, t))))))))
   (some (size, (a, (b, (joins, (x, (x2, (s, t))))))))
theorem q_l_law20_SpanMore_1 (N : Nat) : ∀ (m : Nat) (v : Int × Int × Int × Int × Int × Int × (List Int) × (List (Int × Int)) × (List (Int × Int))), l_law20_SpanMore_1 N m v = tl_law20_SpanMore_1 N m v
  | 0, _ => by kernel_rfl
  | m + 1, (size, a, b, joins, x, x2, c, s, t) => by
    rw [l_law20_SpanMore_1_s, tl_law20_SpanMore_1, (fcP fcI (fcP fcI (fcP fcI (fcP fcI (fcP fcI (fcP fcI (fcP (fcL fcI) (fcP (fcL (fcP fcI fcI)) (fcL (fcP fcI fcI)))))))))).ok]
    all_goals first | rfl | (simp only [bitI_eq, dem_D]; done) | (simp only [bitI_eq, dem_D]; rfl)
def t_law20_SpanMore : Nat → Int × (List (Int × Int)) × Int × Int → Option (Bool)
  | 0, _ => none
  | N + 1, v => (fcP fcI (fcP (fcL (fcP fcI fcI)) (fcP fcI fcI))).f v fun (n, l, x, x2) => obind (t_law20_alive N ()) fun z1 =>
  cond (!z1)
   (some false)
   (cond (decide ((30 : Int) < (((List.length l) : Nat) : Int)))
     (some true)
     (obind (t_span_Count N ((IntKind.wrap .i64 ((1 : Int) + (Int.tmod (IntKind.wrap .i64 n) (12 : Int)))), l)) fun z2 =>
      obind (appI (16 : Nat) [] l) fun z3 =>
      obind (appI (16 : Nat) z3 [(x, x2)]) fun z4 =>
      obind (t_span_Count N ((IntKind.wrap .i64 ((1 : Int) + (Int.tmod (IntKind.wrap .i64 n) (12 : Int)))), z4)) fun z5 =>
      obind (t_span_Classes N ((IntKind.wrap .i64 ((1 : Int) + (Int.tmod (IntKind.wrap .i64 n) (12 : Int)))), l)) fun z6 =>
      obind (appI (16 : Nat) [] l) fun z7 =>
      obind (appI (16 : Nat) z7 [(x, x2)]) fun z8 =>
      obind (t_span_Spanning N ((IntKind.wrap .i64 ((1 : Int) + (Int.tmod (IntKind.wrap .i64 n) (12 : Int)))), z8)) fun z9 =>
      obind (appI (16 : Nat) [(x, x2)] l) fun z10 =>
      obind (t_span_Spanning N ((IntKind.wrap .i64 ((1 : Int) + (Int.tmod (IntKind.wrap .i64 n) (12 : Int)))), z10)) fun z11 =>
      cond (!(decide (z5.2 = (0 : Int))))
       (cond (decide (z5.2 = (10 : Int)))
         (cond (decide (z9.1 = z5.2))
           (cond (decide (z11.1 = z5.2))
             (cond (decide (z5.1 = (0 : Int)))
               (some (decide ((IntKind.wrap .i64 ((((List.length z9.2) : Nat) : Int) + (((List.length z11.2) : Nat) : Int))) = (0 : Int))))
               (some false))
             (some false))
           (some false))
         (some false))
       (cond (!(decide (z2.2 = (0 : Int))))
         (some false)
         (cond (!(decide (z6.1 = (0 : Int))))
           (some false)
           (cond (!(decide (z9.1 = (0 : Int))))
             (some false)
             (cond (!(decide (z11.1 = (0 : Int))))
               (some false)
               (cond (!(decide ((((List.length z6.2) : Nat) : Int) = (IntKind.wrap .i64 ((1 : Int) + (Int.tmod (IntKind.wrap .i64 n) (12 : Int)))))))
                 (some false)
                 (obind (tl_law20_SpanMore_1 N N ((IntKind.wrap .i64 ((1 : Int) + (Int.tmod (IntKind.wrap .i64 n) (12 : Int)))), (z2.1, (z5.1, ((0 : Int), (x, (x2, (z6.2, (z9.2, z11.2))))))))) fun z12 =>
                  cond (decide (z12.2.2.1 = (IntKind.wrap .i64 (z12.2.1 - z12.2.2.2.1))))
                   (cond (decide ((((List.length z12.2.2.2.2.2.2.1) : Nat) : Int) = (IntKind.wrap .i64 (z12.1 - z12.2.2.1))))
                     (cond (decide ((((List.length z12.2.2.2.2.2.2.2) : Nat) : Int) = (((List.length z12.2.2.2.2.2.2.1) : Nat) : Int)))
                       (cond (decide (z12.2.2.2.1 = (0 : Int)))
                         (some true)
                         (obind (nthI z12.2.2.2.2.2.2.1 (IntKind.wrap .i64 ((((List.length z12.2.2.2.2.2.2.1) : Nat) : Int) - (1 : Int)))) fun z13 =>
                          obind (nthI z12.2.2.2.2.2.2.1 (IntKind.wrap .i64 ((((List.length z12.2.2.2.2.2.2.1) : Nat) : Int) - (1 : Int)))) fun z14 =>
                          some ((decide (z14.1 = z12.2.2.2.2.1)) && (decide (z14.2 = z12.2.2.2.2.2.1)))))
                       (some false))
                     (some false))
                   (some false)))))))))
theorem q_m_law20_SpanMore : ∀ (N : Nat) (v : Int × (List (Int × Int)) × Int × Int), m_law20_SpanMore N v = t_law20_SpanMore N v
  | 0, _ => by kernel_rfl
  | N + 1, (n, l, x, x2) => by
    rw [m_law20_SpanMore_eq, t_law20_SpanMore, (fcP fcI (fcP (fcL (fcP fcI fcI)) (fcP fcI fcI))).ok]
    all_goals first | rfl | (simp only [q_l_law20_SpanMore_1, q_m_law20_alive, q_m_span_Classes, q_m_span_Count, q_m_span_Spanning, bitI_eq, dem_D]; done) | (simp only [q_l_law20_SpanMore_1, q_m_law20_alive, q_m_span_Classes, q_m_span_Count, q_m_span_Spanning, bitI_eq, dem_D]; rfl)
def tl_ref18_Great_1 (N : Nat) : Nat → Int × Int × Int × Int × (List (List Int)) → Option (Int × Int)
  | 0, _ => none
  | m + 1, v => (fcP fcI (fcP fcI (fcP fcI (fcP fcI (fcL (fcL fcI)))))).f v fun (most, n, i, f, f2) => cond (decide (i < (((List.length f2) : Nat) : Int)))
   (cond (decide (n ≤ most))
     (obind (nthI f2 i) fun z1 =>
      (tl_ref18_Great_1 N m (most, ((IntKind.wrap .i64 (n + (((List.length z1) : Nat) : Int))), ((IntKind.wrap .i64 (i + (1 : Int))), (f, f2))))))
     (some (most, n)))
   (some (most, n))
theorem q_l_ref18_Great_1 (N : Nat) : ∀ (m : Nat) (v : Int × Int × Int × Int × (List (List Int))), l_ref18_Great_1 N m v = tl_ref18_Great_1 N m v
  | 0, _ => by kernel_rfl
  | m + 1, (most, n, i, f, f2) => by
    rw [l_ref18_Great_1_s, tl_ref18_Great_1, (fcP fcI (fcP fcI (fcP fcI (fcP fcI (fcL (fcL fcI)))))).ok]
    all_goals first | rfl | (simp only [bitI_eq, dem_D, q_l_ref18_Great_1 N m]; done) | (simp only [bitI_eq, dem_D, q_l_ref18_Great_1 N m]; rfl)
def t_ref18_Great : Nat → Int × (List (List Int)) × Int → Option (Bool)
  | 0, _ => none
  | N + 1, v => (fcP fcI (fcP (fcL (fcL fcI)) fcI)).f v fun (f, f2, most) => obind (tl_ref18_Great_1 N N (most, ((((List.length f2) : Nat) : Int), ((0 : Int), (f, f2))))) fun z1 =>
  some (decide (z1.1 < z1.2))
theorem q_m_ref18_Great : ∀ (N : Nat) (v : Int × (List (List Int)) × Int), m_ref18_Great N v = t_ref18_Great N v
  | 0, _ => by kernel_rfl
  | N + 1, (f, f2, most) => by
    rw [m_ref18_Great_eq, t_ref18_Great, (fcP fcI (fcP (fcL (fcL fcI)) fcI)).ok]
    all_goals first | rfl | (simp only [q_l_ref18_Great_1, bitI_eq, dem_D]; done) | (simp only [q_l_ref18_Great_1, bitI_eq, dem_D]; rfl)
def t_ref20_Choose : Nat → Int × (List (List Int)) × (List (Int × Int)) → Option (Int × (List Bool))
  | 0, _ => none
  | N + 1, v => (fcP fcI (fcP (fcL (fcL fcI)) (fcL (fcP fcI fcI)))).f v fun (f, f2, l) => obind (t_ref19_Links N (f, (f2, l))) fun z1 =>
  some (z1.1, z1.2.2.2)
theorem q_m_ref20_Choose : ∀ (N : Nat) (v : Int × (List (List Int)) × (List (Int × Int))), m_ref20_Choose N v = t_ref20_Choose N v
  | 0, _ => by kernel_rfl
  | N + 1, (f, f2, l) => by
    rw [m_ref20_Choose_eq, t_ref20_Choose, (fcP fcI (fcP (fcL (fcL fcI)) (fcL (fcP fcI fcI)))).ok]
    all_goals first | rfl | (simp only [q_m_ref19_Links, bitI_eq, dem_D]; done) | (simp only [q_m_ref19_Links, bitI_eq, dem_D]; rfl)
def t_ref18_Of : Nat → Int × (List (List Int)) × Int → Option (Int)
  | 0, _ => none
  | N + 1, v => (fcP fcI (fcP (fcL (fcL fcI)) fcI)).f v fun (f, f2, v) => obind (t_ref18_Right N (f, f2)) fun z1 =>
  cond (!z1)
   (some (-(1 : Int)))
   (obind (t_ref18_in N (f, v)) fun z2 =>
    cond (!z2)
     (some (-(1 : Int)))
     (obind (t_ref18_place N (f, (f2, v))) fun z3 =>
      some z3))
theorem q_m_ref18_Of : ∀ (N : Nat) (v : Int × (List (List Int)) × Int), m_ref18_Of N v = t_ref18_Of N v
  | 0, _ => by kernel_rfl
  | N + 1, (f, f2, v) => by
    rw [m_ref18_Of_eq, t_ref18_Of, (fcP fcI (fcP (fcL (fcL fcI)) fcI)).ok]
    all_goals first | rfl | (simp only [q_m_ref18_Right, q_m_ref18_in, q_m_ref18_place, bitI_eq, dem_D]; done) | (simp only [q_m_ref18_Right, q_m_ref18_in, q_m_ref18_place, bitI_eq, dem_D]; rfl)
def tl_ref19_Members_1 (N : Nat) : Nat → (List Int) × Int × Int × (List (List Int)) × (List Int) → Option ((List Int))
  | 0, _ => none
  | m + 1, v => (fcP (fcL fcI) (fcP fcI (fcP fcI (fcP (fcL (fcL fcI)) (fcL fcI))))).f v fun (l, u, f, f2, out) => cond (decide (u < f))
   (obind (t_ref13_Place N (l, u)) fun z1 =>
    cond (decide ((0 : Int) ≤ z1))
     (obind (appI (8 : Nat) out [u]) fun z2 =>
      (tl_ref19_Members_1 N m (l, ((IntKind.wrap .i64 (u + (1 : Int))), (f, (f2, z2))))))
     ((tl_ref19_Members_1 N m (l, ((IntKind.wrap .i64 (u + (1 : Int))), (f, (f2, out)))))))
   (some out)
theorem q_l_ref19_Members_1 (N : Nat) : ∀ (m : Nat) (v : (List Int) × Int × Int × (List (List Int)) × (List Int)), l_ref19_Members_1 N m v = tl_ref19_Members_1 N m v
  | 0, _ => by kernel_rfl
  | m + 1, (l, u, f, f2, out) => by
    rw [l_ref19_Members_1_s, tl_ref19_Members_1, (fcP (fcL fcI) (fcP fcI (fcP fcI (fcP (fcL (fcL fcI)) (fcL fcI))))).ok]
    all_goals first | rfl | (simp only [q_m_ref13_Place, bitI_eq, dem_D, q_l_ref19_Members_1 N m]; done) | (simp only [q_m_ref13_Place, bitI_eq, dem_D, q_l_ref19_Members_1 N m]; rfl)
def t_ref19_Members : Nat → Int × (List (List Int)) × Int → Option (Int × (List Int))
  | 0, _ => none
  | N + 1, v => (fcP fcI (fcP (fcL (fcL fcI)) fcI)).f v fun (f, f2, v) => obind (t_ref19_there N (f, (f2, [(v, v)]))) fun z1 =>
  cond (!(decide (z1 = (0 : Int))))
   (some (z1, []))
   (obind (t_ref18_Of N (f, (f2, v))) fun z2 =>
    obind (nthI f2 z2) fun z3 =>
    obind (tl_ref19_Members_1 N N (z3, ((0 : Int), (f, (f2, []))))) fun z4 =>
    some ((0 : Int), z4))
theorem q_m_ref19_Members : ∀ (N : Nat) (v : Int × (List (List Int)) × Int), m_ref19_Members N v = t_ref19_Members N v
  | 0, _ => by kernel_rfl
  | N + 1, (f, f2, v) => by
    rw [m_ref19_Members_eq, t_ref19_Members, (fcP fcI (fcP (fcL (fcL fcI)) fcI)).ok]
    all_goals first | rfl | (simp only [q_l_ref19_Members_1, q_m_ref18_Of, q_m_ref19_there, bitI_eq, dem_D]; done) | (simp only [q_l_ref19_Members_1, q_m_ref18_Of, q_m_ref19_there, bitI_eq, dem_D]; rfl)
def t_ref19_Least : Nat → Int × (List (List Int)) × Int → Option (Int × Int)
  | 0, _ => none
  | N + 1, v => (fcP fcI (fcP (fcL (fcL fcI)) fcI)).f v fun (f, f2, v) => obind (t_ref19_Members N (f, (f2, v))) fun z1 =>
  cond (!(decide (z1.1 = (0 : Int))))
   (some ((0 : Int), z1.1))
   (obind (nthI z1.2 (0 : Int)) fun z2 =>
    obind (nthI z1.2 (0 : Int)) fun z3 =>
    some (z3, (0 : Int)))
theorem q_m_ref19_Least : ∀ (N : Nat) (v : Int × (List (List Int)) × Int), m_ref19_Least N v = t_ref19_Least N v
  | 0, _ => by kernel_rfl
  | N + 1, (f, f2, v) => by
    rw [m_ref19_Least_eq, t_ref19_Least, (fcP fcI (fcP (fcL (fcL fcI)) fcI)).ok]
    all_goals first | rfl | (simp only [q_m_ref19_Members, bitI_eq, dem_D]; done) | (simp only [q_m_ref19_Members, bitI_eq, dem_D]; rfl)
def tl_ref20_Contract_1 (N : Nat) : Nat → (List (Int × Int)) × Int × Int × (List (List Int)) × (List (Int × Int)) → Option ((List (Int × Int)))
  | 0, _ => none
  | m + 1, v => (fcP (fcL (fcP fcI fcI)) (fcP fcI (fcP fcI (fcP (fcL (fcL fcI)) (fcL (fcP fcI fcI)))))).f v fun (l, i, f, f2, out) => cond (decide (i < (((List.length l) : Nat) : Int)))
   (obind (nthI l i) fun z1 =>
    obind (t_ref19_Least N (f, (f2, z1.1))) fun z2 =>
    obind (nthI l i) fun z3 =>
    obind (t_ref19_Least N (f, (f2, z3.2))) fun z4 =>
    obind (appI (16 : Nat) out [(z2.1, z4.1)]) fun z5 =>
    (tl_ref20_Contract_1 N m (l, ((IntKind.wrap .i64 (i + (1 : Int))), (f, (f2, z5))))))
   (some out)
theorem q_l_ref20_Contract_1 (N : Nat) : ∀ (m : Nat) (v : (List (Int × Int)) × Int × Int × (List (List Int)) × (List (Int × Int))), l_ref20_Contract_1 N m v = tl_ref20_Contract_1 N m v
  | 0, _ => by kernel_rfl
  | m + 1, (l, i, f, f2, out) => by
    rw [l_ref20_Contract_1_s, tl_ref20_Contract_1, (fcP (fcL (fcP fcI fcI)) (fcP fcI (fcP fcI (fcP (fcL (fcL fcI)) (fcL (fcP fcI fcI)))))).ok]
    all_goals first | rfl | (simp only [q_m_ref19_Least, bitI_eq, dem_D, q_l_ref20_Contract_1 N m]; done) | (simp only [q_m_ref19_Least, bitI_eq, dem_D, q_l_ref20_Contract_1 N m]; rfl)
def t_ref20_Contract : Nat → Int × (List (List Int)) × (List (Int × Int)) → Option (Int × (List (Int × Int)))
  | 0, _ => none
  | N + 1, v => (fcP fcI (fcP (fcL (fcL fcI)) (fcL (fcP fcI fcI)))).f v fun (f, f2, l) => obind (t_ref19_Links N (f, (f2, l))) fun z1 =>
  cond (!(decide (z1.1 = (0 : Int))))
   (some (z1.1, []))
   (obind (tl_ref20_Contract_1 N N (l, ((0 : Int), (f, (f2, []))))) fun z2 =>
    some ((0 : Int), z2))
theorem q_m_ref20_Contract : ∀ (N : Nat) (v : Int × (List (List Int)) × (List (Int × Int))), m_ref20_Contract N v = t_ref20_Contract N v
  | 0, _ => by kernel_rfl
  | N + 1, (f, f2, l) => by
    rw [m_ref20_Contract_eq, t_ref20_Contract, (fcP fcI (fcP (fcL (fcL fcI)) (fcL (fcP fcI fcI)))).ok]
    all_goals first | rfl | (simp only [q_l_ref20_Contract_1, q_m_ref19_Links, bitI_eq, dem_D]; done) | (simp only [q_l_ref20_Contract_1, q_m_ref19_Links, bitI_eq, dem_D]; rfl)
def tl_ref20_asked_1 (N : Nat) : Nat → Int × (List (Int × Int)) × Int → Option ((Unit) ⊕ (Int))
  | 0, _ => none
  | m + 1, v => (fcP fcI (fcP (fcL (fcP fcI fcI)) fcI)).f v fun (n, l, i) => cond (decide (i < (((List.length l) : Nat) : Int)))
   (obind (nthI l i) fun z1 =>
    cond (decide (z1.1 < (0 : Int)))
     (some (.inr (10 : Int)))
     (obind (nthI l i) fun z2 =>
      cond (decide (n ≤ z2.1))
       (some (.inr (10 : Int)))
       (obind (nthI l i) fun z3 =>
        cond (decide (z3.2 < (0 : Int)))
         (some (.inr (10 : Int)))
         (obind (nthI l i) fun z4 =>
          cond (decide (n ≤ z4.2))
           (some (.inr (10 : Int)))
           ((tl_ref20_asked_1 N m (n, (l, (IntKind.wrap .i64 (i + (1 : Int)))))))))))
   (some (.inl ()))
theorem q_l_ref20_asked_1 (N : Nat) : ∀ (m : Nat) (v : Int × (List (Int × Int)) × Int), l_ref20_asked_1 N m v = tl_ref20_asked_1 N m v
  | 0, _ => by kernel_rfl
  | m + 1, (n, l, i) => by
    rw [l_ref20_asked_1_s, tl_ref20_asked_1, (fcP fcI (fcP (fcL (fcP fcI fcI)) fcI)).ok]
    all_goals first | rfl | (simp only [bitI_eq, dem_D, q_l_ref20_asked_1 N m]; done) | (simp only [bitI_eq, dem_D, q_l_ref20_asked_1 N m]; rfl)
def t_ref20_asked : Nat → Int × (List (Int × Int)) → Option (Int)
  | 0, _ => none
  | N + 1, v => (fcP fcI (fcL (fcP fcI fcI))).f v fun (n, l) => cond (decide (n < (1 : Int)))
   (some (1 : Int))
   (cond (decide ((64 : Int) < n))
     (some (1 : Int))
     (obind (tl_ref20_asked_1 N N (n, (l, (0 : Int)))) fun z1 =>
      (match z1 with
      | .inl zy2 => some (0 : Int)
      | .inr zy3 => some zy3)))
theorem q_m_ref20_asked : ∀ (N : Nat) (v : Int × (List (Int × Int))), m_ref20_asked N v = t_ref20_asked N v
  | 0, _ => by kernel_rfl
  | N + 1, (n, l) => by
    rw [m_ref20_asked_eq, t_ref20_asked, (fcP fcI (fcL (fcP fcI fcI))).ok]
    all_goals first | rfl | (simp only [q_l_ref20_asked_1, bitI_eq, dem_D]; done) | (simp only [q_l_ref20_asked_1, bitI_eq, dem_D]; rfl)
def tl_ref19_Classes_3 (N : Nat) : Nat → Int × (List (Int × Int)) × Bool × Int × (List Int) → Option (Int × (List (Int × Int)) × Bool × (List Int))
  | 0, _ => none
  | m + 1, v => (fcP fcI (fcP (fcL (fcP fcI fcI)) (fcP fcB (fcP fcI (fcL fcI))))).f v fun (n, l, more, i, out) => cond (decide (i < (((List.length l) : Nat) : Int)))
   (obind (nthI l i) fun z1 =>
    obind (nthI l i) fun z2 =>
    cond (decide (z1.1 < (0 : Int)))
     ((tl_ref19_Classes_3 N m (n, (l, (more, ((IntKind.wrap .i64 (i + (1 : Int))), out))))))
     (cond (decide (z2.2 < (0 : Int)))
       ((tl_ref19_Classes_3 N m (n, (l, (more, ((IntKind.wrap .i64 (i + (1 : Int))), out))))))
       (cond (decide (n ≤ z1.1))
         ((tl_ref19_Classes_3 N m (n, (l, (more, ((IntKind.wrap .i64 (i + (1 : Int))), out))))))
         (cond (decide (n ≤ z2.2))
           ((tl_ref19_Classes_3 N m (n, (l, (more, ((IntKind.wrap .i64 (i + (1 : Int))), out))))))
           (obind (nthI out z1.1) fun z3 =>
            obind (nthI out z1.1) fun z4 =>
            obind (nthI out z2.2) fun z5 =>
            obind (nthI out z2.2) fun z6 =>
            cond (decide (z4 = z6))
             ((tl_ref19_Classes_3 N m (n, (l, (more, ((IntKind.wrap .i64 (i + (1 : Int))), out))))))
             (obind (nthI out z1.1) fun z7 =>
              obind (nthI out z1.1) fun z8 =>
              obind (nthI out z2.2) fun z9 =>
              obind (nthI out z2.2) fun z10 =>
              obind (nthI out z1.1) fun z11 =>
              obind (nthI out z1.1) fun z12 =>
              obind (nthI (List.set out (Int.toNat z1.1) (if (z10 < z8) then z10 else z8)) z2.2) fun z13 =>
              obind (nthI (List.set out (Int.toNat z1.1) (if (z10 < z8) then z10 else z8)) z2.2) fun z14 =>
              (tl_ref19_Classes_3 N m (n, (l, (true, ((IntKind.wrap .i64 (i + (1 : Int))), (List.set (List.set out (Int.toNat z1.1) (if (z10 < z8) then z10 else z8)) (Int.toNat z2.2) (if (z10 < z8) then z10 else z8)))))))))))))
   (some (n, (l, (more, out))))
theorem q_l_ref19_Classes_3 (N : Nat) : ∀ (m : Nat) (v : Int × (List (Int × Int)) × Bool × Int × (List Int)), l_ref19_Classes_3 N m v = tl_ref19_Classes_3 N m v
  | 0, _ => by kernel_rfl
  | m + 1, (n, l, more, i, out) => by
    rw [l_ref19_Classes_3_s, tl_ref19_Classes_3, (fcP fcI (fcP (fcL (fcP fcI fcI)) (fcP fcB (fcP fcI (fcL fcI))))).ok]
    all_goals first | rfl | (simp only [bitI_eq, dem_D, q_l_ref19_Classes_3 N m]; done) | (simp only [bitI_eq, dem_D, q_l_ref19_Classes_3 N m]; rfl)
def tl_ref19_Classes_2 (N : Nat) : Nat → Int × (List (Int × Int)) × Bool × (List Int) → Option ((List Int))
  | 0, _ => none
  | m + 1, v => (fcP fcI (fcP (fcL (fcP fcI fcI)) (fcP fcB (fcL fcI)))).f v fun (n, l, more, out) => cond more
   (obind (tl_ref19_Classes_3 N N (n, (l, (false, ((0 : Int), out))))) fun z1 =>
    (tl_ref19_Classes_2 N m (z1.1, (z1.2.1, (z1.2.2.1, z1.2.2.2)))))
   (some out)
theorem q_l_ref19_Classes_2 (N : Nat) : ∀ (m : Nat) (v : Int × (List (Int × Int)) × Bool × (List Int)), l_ref19_Classes_2 N m v = tl_ref19_Classes_2 N m v
  | 0, _ => by kernel_rfl
  | m + 1, (n, l, more, out) => by
    rw [l_ref19_Classes_2_s, tl_ref19_Classes_2, (fcP fcI (fcP (fcL (fcP fcI fcI)) (fcP fcB (fcL fcI)))).ok]
    all_goals first | rfl | (simp only [q_l_ref19_Classes_3, bitI_eq, dem_D, q_l_ref19_Classes_2 N m]; done) | (simp only [q_l_ref19_Classes_3, bitI_eq, dem_D, q_l_ref19_Classes_2 N m]; rfl)
def tl_ref19_Classes_1 (N : Nat) : Nat → Int × (List (Int × Int)) × Int × (List Int) → Option (Int × (List (Int × Int)) × (List Int))
  | 0, _ => none
  | m + 1, v => (fcP fcI (fcP (fcL (fcP fcI fcI)) (fcP fcI (fcL fcI)))).f v fun (n, l, v, out) => cond (decide (v < n))
   (obind (appI (8 : Nat) out [v]) fun z1 =>
    (tl_ref19_Classes_1 N m (n, (l, ((IntKind.wrap .i64 (v + (1 : Int))), z1)))))
   (some (n, (l, out)))
theorem q_l_ref19_Classes_1 (N : Nat) : ∀ (m : Nat) (v : Int × (List (Int × Int)) × Int × (List Int)), l_ref19_Classes_1 N m v = tl_ref19_Classes_1 N m v
  | 0, _ => by kernel_rfl
  | m + 1, (n, l, v, out) => by
    rw [l_ref19_Classes_1_s, tl_ref19_Classes_1, (fcP fcI (fcP (fcL (fcP fcI fcI)) (fcP fcI (fcL fcI)))).ok]
    all_goals first | rfl | (simp only [bitI_eq, dem_D, q_l_ref19_Classes_1 N m]; done) | (simp only [bitI_eq, dem_D, q_l_ref19_Classes_1 N m]; rfl)
def t_ref19_Classes : Nat → Int × (List (Int × Int)) → Option ((List Int))
  | 0, _ => none
  | N + 1, v => (fcP fcI (fcL (fcP fcI fcI))).f v fun (n, l) => obind (tl_ref19_Classes_1 N N (n, (l, ((0 : Int), [])))) fun z1 =>
  obind (tl_ref19_Classes_2 N N (z1.1, (z1.2.1, (true, z1.2.2)))) fun z2 =>
  some z2
theorem q_m_ref19_Classes : ∀ (N : Nat) (v : Int × (List (Int × Int))), m_ref19_Classes N v = t_ref19_Classes N v
  | 0, _ => by kernel_rfl
  | N + 1, (n, l) => by
    rw [m_ref19_Classes_eq, t_ref19_Classes, (fcP fcI (fcL (fcP fcI fcI))).ok]
    all_goals first | rfl | (simp only [q_l_ref19_Classes_1, q_l_ref19_Classes_2, bitI_eq, dem_D]; done) | (simp only [q_l_ref19_Classes_1, q_l_ref19_Classes_2, bitI_eq, dem_D]; rfl)
def t_ref20_Classes : Nat → Int × (List (Int × Int)) → Option (Int × (List Int))
  | 0, _ => none
  | N + 1, v => (fcP fcI (fcL (fcP fcI fcI))).f v fun (n, l) => obind (t_ref20_asked N (n, l)) fun z1 =>
  cond (!(decide (z1 = (0 : Int))))
   (some (z1, []))
   (obind (t_ref19_Classes N (n, l)) fun z2 =>
    some ((0 : Int), z2))
theorem q_m_ref20_Classes : ∀ (N : Nat) (v : Int × (List (Int × Int))), m_ref20_Classes N v = t_ref20_Classes N v
  | 0, _ => by kernel_rfl
  | N + 1, (n, l) => by
    rw [m_ref20_Classes_eq, t_ref20_Classes, (fcP fcI (fcL (fcP fcI fcI))).ok]
    all_goals first | rfl | (simp only [q_m_ref19_Classes, q_m_ref20_asked, bitI_eq, dem_D]; done) | (simp only [q_m_ref19_Classes, q_m_ref20_asked, bitI_eq, dem_D]; rfl)
def tl_ref20_Spanning_1 (N : Nat) : Nat → (List (Int × Int)) × Int × (List Bool) × (List (Int × Int)) → Option ((List (Int × Int)))
  | 0, _ => none
  | m + 1, v => (fcP (fcL (fcP fcI fcI)) (fcP fcI (fcP (fcL fcB) (fcL (fcP fcI fcI))))).f v fun (l, i, b, out) => cond (decide (i < (((List.length l) : Nat) : Int)))
   (obind (nthI b i) fun z1 =>
    obind (nthI b i) fun z2 =>
    cond z2
     (obind (nthI l i) fun z3 =>
      obind (appI (16 : Nat) out [(z3.1, z3.2)]) fun z4 =>
      (tl_ref20_Spanning_1 N m (l, ((IntKind.wrap .i64 (i + (1 : Int))), (b, z4)))))
     ((tl_ref20_Spanning_1 N m (l, ((IntKind.wrap .i64 (i + (1 : Int))), (b, out))))))
   (some out)
theorem q_l_ref20_Spanning_1 (N : Nat) : ∀ (m : Nat) (v : (List (Int × Int)) × Int × (List Bool) × (List (Int × Int))), l_ref20_Spanning_1 N m v = tl_ref20_Spanning_1 N m v
  | 0, _ => by kernel_rfl
  | m + 1, (l, i, b, out) => by
    rw [l_ref20_Spanning_1_s, tl_ref20_Spanning_1, (fcP (fcL (fcP fcI fcI)) (fcP fcI (fcP (fcL fcB) (fcL (fcP fcI fcI))))).ok]
    all_goals first | rfl | (simp only [bitI_eq, dem_D, q_l_ref20_Spanning_1 N m]; done) | (simp only [bitI_eq, dem_D, q_l_ref20_Spanning_1 N m]; rfl)
def t_ref20_Spanning : Nat → Int × (List (Int × Int)) → Option (Int × (List (Int × Int)))
  | 0, _ => none
  | N + 1, v => (fcP fcI (fcL (fcP fcI fcI))).f v fun (n, l) => obind (t_ref18_Make N n) fun z1 =>
  cond (!(decide (z1.1 = (0 : Int))))
   (some (z1.1, []))
   (obind (t_ref20_Choose N (z1.2.1, (z1.2.2, l))) fun z2 =>
    cond (!(decide (z2.1 = (0 : Int))))
     (some (z2.1, []))
     (obind (tl_ref20_Spanning_1 N N (l, ((0 : Int), (z2.2, [])))) fun z3 =>
      some ((0 : Int), z3)))
theorem q_m_ref20_Spanning : ∀ (N : Nat) (v : Int × (List (Int × Int))), m_ref20_Spanning N v = t_ref20_Spanning N v
  | 0, _ => by kernel_rfl
  | N + 1, (n, l) => by
    rw [m_ref20_Spanning_eq, t_ref20_Spanning, (fcP fcI (fcL (fcP fcI fcI))).ok]
    all_goals first | rfl | (simp only [q_l_ref20_Spanning_1, q_m_ref18_Make, q_m_ref20_Choose, bitI_eq, dem_D]; done) | (simp only [q_l_ref20_Spanning_1, q_m_ref18_Make, q_m_ref20_Choose, bitI_eq, dem_D]; rfl)
def tl_ref20_Count_1 (N : Nat) : Nat → Int × Int × Int × (List Int) → Option (Int × Int)
  | 0, _ => none
  | m + 1, v => (fcP fcI (fcP fcI (fcP fcI (fcL fcI)))).f v fun (e, k, v, c) => cond (decide (v < (((List.length c) : Nat) : Int)))
   (obind (nthI c v) fun z1 =>
    obind (nthI c v) fun z2 =>
    cond (decide (z2 = v))
     ((tl_ref20_Count_1 N m (e, ((IntKind.wrap .i64 (k + (1 : Int))), ((IntKind.wrap .i64 (v + (1 : Int))), c)))))
     ((tl_ref20_Count_1 N m (e, (k, ((IntKind.wrap .i64 (v + (1 : Int))), c))))))
   (some (e, k))
theorem q_l_ref20_Count_1 (N : Nat) : ∀ (m : Nat) (v : Int × Int × Int × (List Int)), l_ref20_Count_1 N m v = tl_ref20_Count_1 N m v
  | 0, _ => by kernel_rfl
  | m + 1, (e, k, v, c) => by
    rw [l_ref20_Count_1_s, tl_ref20_Count_1, (fcP fcI (fcP fcI (fcP fcI (fcL fcI)))).ok]
    all_goals first | rfl | (simp only [bitI_eq, dem_D, q_l_ref20_Count_1 N m]; done) | (simp only [bitI_eq, dem_D, q_l_ref20_Count_1 N m]; rfl)
def t_ref20_Count : Nat → Int × (List (Int × Int)) → Option (Int × Int)
  | 0, _ => none
  | N + 1, v => (fcP fcI (fcL (fcP fcI fcI))).f v fun (n, l) => obind (t_ref20_Classes N (n, l)) fun z1 =>
  obind (tl_ref20_Count_1 N N (z1.1, ((0 : Int), ((0 : Int), z1.2)))) fun z2 =>
  some (z2.2, z2.1)
theorem q_m_ref20_Count : ∀ (N : Nat) (v : Int × (List (Int × Int))), m_ref20_Count N v = t_ref20_Count N v
  | 0, _ => by kernel_rfl
  | N + 1, (n, l) => by
    rw [m_ref20_Count_eq, t_ref20_Count, (fcP fcI (fcL (fcP fcI fcI))).ok]
    all_goals first | rfl | (simp only [q_l_ref20_Count_1, q_m_ref20_Classes, bitI_eq, dem_D]; done) | (simp only [q_l_ref20_Count_1, q_m_ref20_Classes, bitI_eq, dem_D]; rfl)
def t_law20_SpanAnswers : Nat → Int × (List (List Int)) × (List (Int × Int)) × Int → Option (Bool)
  | 0, _ => none
  | N + 1, v => (fcP fcI (fcP (fcL (fcL fcI)) (fcP (fcL (fcP fcI fcI)) fcI))).f v fun (f, f2, l, n) => obind (t_law20_alive N ()) fun z1 =>
  cond (!z1)
   (some false)
   (obind (t_ref18_Great N (f, (f2, (80 : Int)))) fun z2 =>
    cond z2
     (some true)
     (cond (decide ((15 : Int) < (((List.length l) : Nat) : Int)))
       (some true)
       (obind (t_span_Choose N (f, (f2, l))) fun z3 =>
        obind (t_ref20_Choose N (f, (f2, l))) fun z4 =>
        obind (t_span_Contract N (f, (f2, l))) fun z5 =>
        obind (t_ref20_Contract N (f, (f2, l))) fun z6 =>
        obind (t_span_Classes N (n, l)) fun z7 =>
        obind (t_ref20_Classes N (n, l)) fun z8 =>
        obind (t_span_Spanning N (n, l)) fun z9 =>
        obind (t_ref20_Spanning N (n, l)) fun z10 =>
        obind (t_span_Count N (n, l)) fun z11 =>
        obind (t_ref20_Count N (n, l)) fun z12 =>
        obind (t_ref19_Bools N (z3.2, z4.2)) fun z13 =>
        cond z13
         (cond (decide (z3.1 = z4.1))
           (obind (t_ref11_Same N (z5.2, z6.2)) fun z14 =>
            cond z14
             (cond (decide (z5.1 = z6.1))
               (obind (t_ref01_Ints N (z7.2, z8.2)) fun z15 =>
                cond z15
                 (cond (decide (z7.1 = z8.1))
                   (obind (t_ref11_Same N (z9.2, z10.2)) fun z16 =>
                    cond z16
                     (cond (decide (z9.1 = z10.1))
                       (cond (decide (z11.1 = z12.1))
                         (some (decide (z11.2 = z12.2)))
                         (some false))
                       (some false))
                     (some false))
                   (some false))
                 (some false))
               (some false))
             (some false))
           (some false))
         (some false))))
theorem q_m_law20_SpanAnswers : ∀ (N : Nat) (v : Int × (List (List Int)) × (List (Int × Int)) × Int), m_law20_SpanAnswers N v = t_law20_SpanAnswers N v
  | 0, _ => by kernel_rfl
  | N + 1, (f, f2, l, n) => by
    rw [m_law20_SpanAnswers_eq, t_law20_SpanAnswers, (fcP fcI (fcP (fcL (fcL fcI)) (fcP (fcL (fcP fcI fcI)) fcI))).ok]
    all_goals first | rfl | (simp only [q_m_law20_alive, q_m_ref01_Ints, q_m_ref11_Same, q_m_ref18_Great, q_m_ref19_Bools, q_m_ref20_Choose, q_m_ref20_Classes, q_m_ref20_Contract, q_m_ref20_Count, q_m_ref20_Spanning, q_m_span_Choose, q_m_span_Classes, q_m_span_Contract, q_m_span_Count, q_m_span_Spanning, bitI_eq, dem_D]; done) | (simp only [q_m_law20_alive, q_m_ref01_Ints, q_m_ref11_Same, q_m_ref18_Great, q_m_ref19_Bools, q_m_ref20_Choose, q_m_ref20_Classes, q_m_ref20_Contract, q_m_ref20_Count, q_m_ref20_Spanning, q_m_span_Choose, q_m_span_Classes, q_m_span_Contract, q_m_span_Count, q_m_span_Spanning, bitI_eq, dem_D]; rfl)
def t_law20_SpanContracts : Nat → Int × (List (List Int)) × (List (Int × Int)) → Option (Bool)
  | 0, _ => none
  | N + 1, v => (fcP fcI (fcP (fcL (fcL fcI)) (fcL (fcP fcI fcI)))).f v fun (f, f2, l) => obind (t_law20_alive N ()) fun z1 =>
  cond (!z1)
   (some false)
   (obind (t_ref18_Great N (f, (f2, (80 : Int)))) fun z2 =>
    cond z2
     (some true)
     (cond (decide ((15 : Int) < (((List.length l) : Nat) : Int)))
       (some true)
       (obind (t_span_Contract N (f, (f2, l))) fun z3 =>
        obind (t_span_Choose N (f, (f2, l))) fun z4 =>
        cond (!(decide (z3.1 = (0 : Int))))
         (cond (decide (z3.1 = z4.1))
           (cond (decide ((((List.length z3.2) : Nat) : Int) = (0 : Int)))
             (some (decide ((((List.length z4.2) : Nat) : Int) = (0 : Int))))
             (some false))
           (some false))
         (cond (!(decide (z4.1 = (0 : Int))))
           (cond (decide (z3.1 = z4.1))
             (cond (decide ((((List.length z3.2) : Nat) : Int) = (0 : Int)))
               (some (decide ((((List.length z4.2) : Nat) : Int) = (0 : Int))))
               (some false))
             (some false))
           (obind (t_ref18_Make N f) fun z5 =>
            obind (t_span_Choose N (z5.2.1, (z5.2.2, z3.2))) fun z6 =>
            cond (decide (z5.1 = (0 : Int)))
             (cond (decide (z6.1 = (0 : Int)))
               (obind (t_ref19_Bools N (z4.2, z6.2)) fun z7 =>
                cond z7
                 (some (decide ((((List.length z3.2) : Nat) : Int) = (((List.length l) : Nat) : Int))))
                 (some false))
               (some false))
             (some false))))))
theorem q_m_law20_SpanContracts : ∀ (N : Nat) (v : Int × (List (List Int)) × (List (Int × Int))), m_law20_SpanContracts N v = t_law20_SpanContracts N v
  | 0, _ => by kernel_rfl
  | N + 1, (f, f2, l) => by
    rw [m_law20_SpanContracts_eq, t_law20_SpanContracts, (fcP fcI (fcP (fcL (fcL fcI)) (fcL (fcP fcI fcI)))).ok]
    all_goals first | rfl | (simp only [q_m_law20_alive, q_m_ref18_Great, q_m_ref18_Make, q_m_ref19_Bools, q_m_span_Choose, q_m_span_Contract, bitI_eq, dem_D]; done) | (simp only [q_m_law20_alive, q_m_ref18_Great, q_m_ref18_Make, q_m_ref19_Bools, q_m_span_Choose, q_m_span_Contract, bitI_eq, dem_D]; rfl)
end
end Go.Proofs.Ytmgjokihljeemaa
