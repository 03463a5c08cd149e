/- StoreRoom: the seat's texts as one (5 of 6; printed by wip/prune.py). -/
import Derived.Test.YtdahghkmejnlgaaZStoreRoom4
noncomputable section
set_option linter.unusedVariables false
set_option linter.unusedSimpArgs false
set_option maxRecDepth 100000
namespace Go.Proofs.Ytdahghkmejnlgaa
open Go Go.RowKit
noncomputable section
def tl_u38_1 (N : Nat) : Nat → (List Int) × Int × Int → Option ((Unit) ⊕ (Int))
 | 0, _ => none
 | m + 1, v => (fcP (fcL fcI) (fcP fcI fcI)).f v fun (l, token, i) => cond (decide (i < (((List.length l) : Nat) : Int)))
  (obind (nthI l i) fun z1 =>
   cond (decide (z1 = token))
    (some (.inr i))
    ((tl_u38_1 N m (l, (token, (IntKind.wrap .i64 (i + (1 : Int))))))))
  (some (.inl ()))
theorem q_l_u38_1 (N : Nat) : ∀ (m : Nat) (v : (List Int) × Int × Int), l_u38_1 N m v = tl_u38_1 N m v
 | 0, _ => by kernel_rfl
 | m + 1, (l, token, i) => by
   rw [l_u38_1_s, tl_u38_1, (fcP (fcL fcI) (fcP fcI fcI)).ok]
   all_goals first | rfl | (simp only [bitI_eq, dem_D, q_l_u38_1 N m]; done) | (simp only [bitI_eq, dem_D, q_l_u38_1 N m]; rfl)
def t_u38 : Nat → (List Int) × Int → Option (Int)
 | 0, _ => none
 | N + 1, v => (fcP (fcL fcI) fcI).f v fun (l, token) => obind (tl_u38_1 N N (l, (token, (0 : Int)))) fun z1 =>
 (match z1 with
 | .inl zy2 => some (-(1 : Int))
 | .inr zy3 => some zy3)
theorem q_m_u38 : ∀ (N : Nat) (v : (List Int) × Int), m_u38 N v = t_u38 N v
 | 0, _ => by kernel_rfl
 | N + 1, (l, token) => by
   rw [m_u38_eq, t_u38, (fcP (fcL fcI) fcI).ok]
   all_goals first | rfl | (simp only [q_l_u38_1, bitI_eq, dem_D]; done) | (simp only [q_l_u38_1, bitI_eq, dem_D]; rfl)
def tl_u40_1 (N : Nat) : Nat → (List Int) × Int → Option ((Unit) ⊕ (Bool))
 | 0, _ => none
 | m + 1, v => (fcP (fcL fcI) fcI).f v fun (l, i) => cond (decide (i < (((List.length l) : Nat) : Int)))
  (obind (nthI l i) fun z1 =>
   cond (decide (z1 < (0 : Int)))
    (some (.inr false))
    (obind (nthI l i) fun z2 =>
     cond (decide ((10000 : Int) < z2))
      (some (.inr false))
      (obind (subI l (0 : Int) i) fun z3 =>
       obind (nthI l i) fun z4 =>
       obind (t_u38 N (z3, z4)) fun z5 =>
       cond (decide ((0 : Int) ≤ z5))
        (some (.inr false))
        ((tl_u40_1 N m (l, (IntKind.wrap .i64 (i + (1 : Int)))))))))
  (some (.inl ()))
theorem q_l_u40_1 (N : Nat) : ∀ (m : Nat) (v : (List Int) × Int), l_u40_1 N m v = tl_u40_1 N m v
 | 0, _ => by kernel_rfl
 | m + 1, (l, i) => by
   rw [l_u40_1_s, tl_u40_1, (fcP (fcL fcI) fcI).ok]
   all_goals first | rfl | (simp only [q_m_u38, bitI_eq, dem_D, q_l_u40_1 N m]; done) | (simp only [q_m_u38, bitI_eq, dem_D, q_l_u40_1 N m]; rfl)
def t_u40 : Nat → (List Int) → Option (Bool)
 | 0, _ => none
 | N + 1, v => (fcL fcI).f v fun (l) => cond (decide ((1000 : Int) < (((List.length l) : Nat) : Int)))
  (some false)
  (obind (tl_u40_1 N N (l, (0 : Int))) fun z1 =>
   (match z1 with
   | .inl zy2 => some true
   | .inr zy3 => some zy3))
theorem q_m_u40 : ∀ (N : Nat) (v : (List Int)), m_u40 N v = t_u40 N v
 | 0, _ => by kernel_rfl
 | N + 1, (l) => by
   rw [m_u40_eq, t_u40, (fcL fcI).ok]
   all_goals first | rfl | (simp only [q_l_u40_1, bitI_eq, dem_D]; done) | (simp only [q_l_u40_1, bitI_eq, dem_D]; rfl)
def tl_u41_4 (N : Nat) : Nat → (List Int) × Int × Int × Int × Int × (List Int) × (List Int) × (List Int) × (List (List Int)) → Option ((List Int) × Int × Int × Int × Int × (List Int) × (List Int) × (List Int) × (List (List Int)))
 | 0, _ => none
 | m + 1, v => (fcP (fcL fcI) (fcP fcI (fcP fcI (fcP fcI (fcP fcI (fcP (fcL fcI) (fcP (fcL fcI) (fcP (fcL fcI) (fcL (fcL fcI)))))))))).f v fun (heights, n, i, h, k, l, v902, v903, v905) => obind (remI (IntKind.wrap .i64 (i + k)) n) fun z1 =>
 obind (nthI heights z1) fun z2 =>
 cond (decide (z2 ≤ h))
  ((tl_u41_4 N m (heights, (n, (i, (h, ((IntKind.wrap .i64 (k + (1 : Int))), (l, (v902, (v903, v905))))))))))
  (some (heights, (n, (i, (h, (k, (l, (v902, (v903, v905)))))))))
theorem q_l_u41_4 (N : Nat) : ∀ (m : Nat) (v : (List Int) × Int × Int × Int × Int × (List Int) × (List Int) × (List Int) × (List (List Int))), l_u41_4 N m v = tl_u41_4 N m v
 | 0, _ => by kernel_rfl
 | m + 1, (heights, n, i, h, k, l, v902, v903, v905) => by
   rw [l_u41_4_s, tl_u41_4, (fcP (fcL fcI) (fcP fcI (fcP fcI (fcP fcI (fcP fcI (fcP (fcL fcI) (fcP (fcL fcI) (fcP (fcL fcI) (fcL (fcL fcI)))))))))).ok]
   all_goals first | rfl | (simp only [bitI_eq, dem_D, q_l_u41_4 N m]; done) | (simp only [bitI_eq, dem_D, q_l_u41_4 N m]; rfl)
def tl_u41_3 (N : Nat) : Nat → (List Int) × Int × Int × Int × (List Int) × (List Int) × (List Int) × (List (List Int)) → Option ((List Int) × Int × Int × (List Int) × (List Int) × (List Int) × (List (List Int)))
 | 0, _ => none
 | m + 1, v => (fcP (fcL fcI) (fcP fcI (fcP fcI (fcP fcI (fcP (fcL fcI) (fcP (fcL fcI) (fcP (fcL fcI) (fcL (fcL fcI))))))))).f v fun (heights, n, i, h, l, v902, v903, v905) => obind (nthI heights i) fun z1 =>
 cond (decide (h < z1))
  (obind (tl_u41_4 N N (heights, (n, (i, (h, ((1 : Int), (l, (v902, (v903, v905))))))))) fun z2 =>
   obind (remI (IntKind.wrap .i64 (z2.2.2.1 + z2.2.2.2.2.1)) z2.2.1) fun z3 =>
   obind (appI (8 : Nat) z2.2.2.2.2.2.1 [z3]) fun z4 =>
   (tl_u41_3 N m (z2.1, (z2.2.1, (z2.2.2.1, ((IntKind.wrap .i64 (z2.2.2.2.1 + (1 : Int))), (z4, (z2.2.2.2.2.2.2.1, (z2.2.2.2.2.2.2.2.1, z2.2.2.2.2.2.2.2.2)))))))))
  (some (heights, (n, (i, (l, (v902, (v903, v905)))))))
theorem q_l_u41_3 (N : Nat) : ∀ (m : Nat) (v : (List Int) × Int × Int × Int × (List Int) × (List Int) × (List Int) × (List (List Int))), l_u41_3 N m v = tl_u41_3 N m v
 | 0, _ => by kernel_rfl
 | m + 1, (heights, n, i, h, l, v902, v903, v905) => by
   rw [l_u41_3_s, tl_u41_3, (fcP (fcL fcI) (fcP fcI (fcP fcI (fcP fcI (fcP (fcL fcI) (fcP (fcL fcI) (fcP (fcL fcI) (fcL (fcL fcI))))))))).ok]
   all_goals first | rfl | (simp only [q_l_u41_4, bitI_eq, dem_D, q_l_u41_3 N m]; done) | (simp only [q_l_u41_4, bitI_eq, dem_D, q_l_u41_3 N m]; rfl)
def tl_u41_2 (N : Nat) : Nat → (List Int) × Int × Int × (List Int) × (List Int) × (List (List Int)) → Option ((List Int) × (List Int) × (List (List Int)))
 | 0, _ => none
 | m + 1, v => (fcP (fcL fcI) (fcP fcI (fcP fcI (fcP (fcL fcI) (fcP (fcL fcI) (fcL (fcL fcI))))))).f v fun (heights, n, i, v902, v903, v904) => cond (decide (i < n))
  (obind (tl_u41_3 N N (heights, (n, (i, ((0 : Int), ([], (v902, (v903, v904)))))))) fun z1 =>
   obind (appI (24 : Nat) z1.2.2.2.2.2.2 [z1.2.2.2.1]) fun z2 =>
   (tl_u41_2 N m (z1.1, (z1.2.1, ((IntKind.wrap .i64 (z1.2.2.1 + (1 : Int))), (z1.2.2.2.2.1, (z1.2.2.2.2.2.1, z2)))))))
  (some (v902, (v903, v904)))
theorem q_l_u41_2 (N : Nat) : ∀ (m : Nat) (v : (List Int) × Int × Int × (List Int) × (List Int) × (List (List Int))), l_u41_2 N m v = tl_u41_2 N m v
 | 0, _ => by kernel_rfl
 | m + 1, (heights, n, i, v902, v903, v904) => by
   rw [l_u41_2_s, tl_u41_2, (fcP (fcL fcI) (fcP fcI (fcP fcI (fcP (fcL fcI) (fcP (fcL fcI) (fcL (fcL fcI))))))).ok]
   all_goals first | rfl | (simp only [q_l_u41_3, bitI_eq, dem_D, q_l_u41_2 N m]; done) | (simp only [q_l_u41_3, bitI_eq, dem_D, q_l_u41_2 N m]; rfl)
def tl_u41_1 (N : Nat) : Nat → (List Int) × (List Int) × Int × Int → Option (((List Int) × (List Int) × Int) ⊕ (Int))
 | 0, _ => none
 | m + 1, v => (fcP (fcL fcI) (fcP (fcL fcI) (fcP fcI fcI))).f v fun (tokens, heights, n, i) => cond (decide (i < n))
  (obind (nthI heights i) fun z1 =>
   cond (decide (z1 < (1 : Int)))
    (some (.inr (1 : Int)))
    (obind (nthI heights i) fun z2 =>
     cond (decide ((8 : Int) < z2))
      (some (.inr (1 : Int)))
      ((tl_u41_1 N m (tokens, (heights, (n, (IntKind.wrap .i64 (i + (1 : Int))))))))))
  (some (.inl (tokens, (heights, n))))
theorem q_l_u41_1 (N : Nat) : ∀ (m : Nat) (v : (List Int) × (List Int) × Int × Int), l_u41_1 N m v = tl_u41_1 N m v
 | 0, _ => by kernel_rfl
 | m + 1, (tokens, heights, n, i) => by
   rw [l_u41_1_s, tl_u41_1, (fcP (fcL fcI) (fcP (fcL fcI) (fcP fcI fcI))).ok]
   all_goals first | rfl | (simp only [bitI_eq, dem_D, q_l_u41_1 N m]; done) | (simp only [bitI_eq, dem_D, q_l_u41_1 N m]; rfl)
def t_u41 : Nat → (List Int) × (List Int) → Option (Int × (List Int) × (List Int) × (List (List Int)))
 | 0, _ => none
 | N + 1, v => (fcP (fcL fcI) (fcL fcI)).f v fun (tokens, heights) => obind (t_u40 N tokens) fun z1 =>
 cond (!z1)
  (some ((1 : Int), ([], ([], []))))
  (cond (decide ((((List.length tokens) : Nat) : Int) = (0 : Int)))
    (some ((1 : Int), ([], ([], []))))
    (cond (!(decide ((((List.length heights) : Nat) : Int) = (((List.length tokens) : Nat) : Int))))
      (some ((1 : Int), ([], ([], []))))
      (obind (tl_u41_1 N N (tokens, (heights, ((((List.length tokens) : Nat) : Int), (0 : Int))))) fun z2 =>
       (match z2 with
       | .inl zy3 => obind (appI (8 : Nat) [] zy3.1) fun z4 =>
         obind (appI (8 : Nat) [] zy3.2.1) fun z5 =>
         obind (tl_u41_2 N N (zy3.2.1, (zy3.2.2, ((0 : Int), (z4, (z5, [])))))) fun z6 =>
         some ((0 : Int), (z6.1, (z6.2.1, z6.2.2)))
       | .inr zy7 => some (zy7, ([], ([], [])))))))
theorem q_m_u41 : ∀ (N : Nat) (v : (List Int) × (List Int)), m_u41 N v = t_u41 N v
 | 0, _ => by kernel_rfl
 | N + 1, (tokens, heights) => by
   rw [m_u41_eq, t_u41, (fcP (fcL fcI) (fcL fcI)).ok]
   all_goals first | rfl | (simp only [q_l_u41_1, q_l_u41_2, q_m_u40, bitI_eq, dem_D]; done) | (simp only [q_l_u41_1, q_l_u41_2, q_m_u40, bitI_eq, dem_D]; rfl)
def tl_u74_1 (N : Nat) : Nat → Int × Int × Int × (List Int) × (List Int) → Option ((List Int) × (List Int))
 | 0, _ => none
 | m + 1, v => (fcP fcI (fcP fcI (fcP fcI (fcP (fcL fcI) (fcL fcI))))).f v fun (n, v16, v17, v902, v903) => cond (decide (v17 < v16))
  (obind (appI (8 : Nat) v903 [(IntKind.wrap .i64 ((IntKind.wrap .i64 (n - (1 : Int))) - v17))]) fun z1 =>
   (tl_u74_1 N m (n, (v16, ((IntKind.wrap .i64 (v17 + (1 : Int))), (v902, z1))))))
  (some (v902, v903))
theorem q_l_u74_1 (N : Nat) : ∀ (m : Nat) (v : Int × Int × Int × (List Int) × (List Int)), l_u74_1 N m v = tl_u74_1 N m v
 | 0, _ => by kernel_rfl
 | m + 1, (n, v16, v17, v902, v903) => by
   rw [l_u74_1_s, tl_u74_1, (fcP fcI (fcP fcI (fcP fcI (fcP (fcL fcI) (fcL fcI))))).ok]
   all_goals first | rfl | (simp only [bitI_eq, dem_D, q_l_u74_1 N m]; done) | (simp only [bitI_eq, dem_D, q_l_u74_1 N m]; rfl)
def t_u74 : Nat → Int → Option (Int × (List Int) × (List Int))
 | 0, _ => none
 | N + 1, v => fcI.f v fun (n) => cond (decide (n < (1 : Int)))
  (some ((1 : Int), ([], [])))
  (cond (decide ((1000 : Int) < n))
    (some ((1 : Int), ([], [])))
    (obind (makI n (8 : Nat)) fun z1 =>
     obind (tl_u74_1 N N (n, (n, ((0 : Int), ((List.replicate z1 (0 : Int)), []))))) fun z2 =>
     some ((0 : Int), (z2.1, z2.2))))
theorem q_m_u74 : ∀ (N : Nat) (v : Int), m_u74 N v = t_u74 N v
 | 0, _ => by kernel_rfl
 | N + 1, (n) => by
   rw [m_u74_eq, t_u74, fcI.ok]
   all_goals first | rfl | (simp only [q_l_u74_1, bitI_eq, dem_D]; done) | (simp only [q_l_u74_1, bitI_eq, dem_D]; rfl)
def t_u64 : Nat → Int → Option (Int × (List Int) × (List Int) × (List (Int × (Int × (List (Int × Int))))))
 | 0, _ => none
 | N + 1, v => fcI.f v fun (n) => obind (t_u74 N n) fun z1 =>
 cond (!(decide (z1.1 = (0 : Int))))
  (some (z1.1, ([], ([], []))))
  (obind (makI n (40 : Nat)) fun z2 =>
   some ((0 : Int), (z1.2.1, (z1.2.2, (List.replicate z2 ((0 : Int), ((0 : Int), [])))))))
theorem q_m_u64 : ∀ (N : Nat) (v : Int), m_u64 N v = t_u64 N v
 | 0, _ => by kernel_rfl
 | N + 1, (n) => by
   rw [m_u64_eq, t_u64, fcI.ok]
   all_goals first | rfl | (simp only [q_m_u74, bitI_eq, dem_D]; done) | (simp only [q_m_u74, bitI_eq, dem_D]; rfl)
def tl_u24_1 (N : Nat) : Nat → (List Int) × Int × Int → Option (Int)
 | 0, _ => none
 | m + 1, v => (fcP (fcL fcI) (fcP fcI fcI)).f v fun (x, v3, i) => cond (decide (i < (((List.length x) : Nat) : Int)))
  (obind (nthI x i) fun z1 =>
   (tl_u24_1 N m (x, ((if (z1 < v3) then z1 else v3), (IntKind.wrap .i64 (i + (1 : Int)))))))
  (some v3)
theorem q_l_u24_1 (N : Nat) : ∀ (m : Nat) (v : (List Int) × Int × Int), l_u24_1 N m v = tl_u24_1 N m v
 | 0, _ => by kernel_rfl
 | m + 1, (x, v3, i) => by
   rw [l_u24_1_s, tl_u24_1, (fcP (fcL fcI) (fcP fcI fcI)).ok]
   all_goals first | rfl | (simp only [bitI_eq, dem_D, q_l_u24_1 N m]; done) | (simp only [bitI_eq, dem_D, q_l_u24_1 N m]; rfl)
def t_u24 : Nat → (List Int) → Option (Int)
 | 0, _ => none
 | N + 1, v => (fcL fcI).f v fun (x) => cond (decide ((((List.length x) : Nat) : Int) < (1 : Int)))
  (none)
  (obind (nthI x (0 : Int)) fun z1 =>
   obind (tl_u24_1 N N (x, (z1, (1 : Int)))) fun z2 =>
   some z2)
theorem q_m_u24 : ∀ (N : Nat) (v : (List Int)), m_u24 N v = t_u24 N v
 | 0, _ => by kernel_rfl
 | N + 1, (x) => by
   rw [m_u24_eq, t_u24, (fcL fcI).ok]
   all_goals first | rfl | (simp only [q_l_u24_1, bitI_eq, dem_D]; done) | (simp only [q_l_u24_1, bitI_eq, dem_D]; rfl)
def tl_u23_1 (N : Nat) : Nat → (List Int) × Int × Int → Option (Int)
 | 0, _ => none
 | m + 1, v => (fcP (fcL fcI) (fcP fcI fcI)).f v fun (x, v3, i) => cond (decide (i < (((List.length x) : Nat) : Int)))
  (obind (nthI x i) fun z1 =>
   (tl_u23_1 N m (x, ((if (z1 > v3) then z1 else v3), (IntKind.wrap .i64 (i + (1 : Int)))))))
  (some v3)
theorem q_l_u23_1 (N : Nat) : ∀ (m : Nat) (v : (List Int) × Int × Int), l_u23_1 N m v = tl_u23_1 N m v
 | 0, _ => by kernel_rfl
 | m + 1, (x, v3, i) => by
   rw [l_u23_1_s, tl_u23_1, (fcP (fcL fcI) (fcP fcI fcI)).ok]
   all_goals first | rfl | (simp only [bitI_eq, dem_D, q_l_u23_1 N m]; done) | (simp only [bitI_eq, dem_D, q_l_u23_1 N m]; rfl)
def t_u23 : Nat → (List Int) → Option (Int)
 | 0, _ => none
 | N + 1, v => (fcL fcI).f v fun (x) => cond (decide ((((List.length x) : Nat) : Int) < (1 : Int)))
  (none)
  (obind (nthI x (0 : Int)) fun z1 =>
   obind (tl_u23_1 N N (x, (z1, (1 : Int)))) fun z2 =>
   some z2)
theorem q_m_u23 : ∀ (N : Nat) (v : (List Int)), m_u23 N v = t_u23 N v
 | 0, _ => by kernel_rfl
 | N + 1, (x) => by
   rw [m_u23_eq, t_u23, (fcL fcI).ok]
   all_goals first | rfl | (simp only [q_l_u23_1, bitI_eq, dem_D]; done) | (simp only [q_l_u23_1, bitI_eq, dem_D]; rfl)
def tl_u56_1 (N : Nat) : Nat → Int × (List Int) × Int × Int × (List (Int × Int)) → Option ((Unit) ⊕ (Bool))
 | 0, _ => none
 | m + 1, v => (fcP fcI (fcP (fcL fcI) (fcP fcI (fcP fcI (fcL (fcP fcI fcI)))))).f v fun (n, v30, v31, v32, met) => cond (decide (v32 < v31))
  (obind (nthI v30 v32) fun z1 =>
   cond (decide (z1 < (0 : Int)))
    (some (.inr false))
    (cond (decide (n ≤ z1))
      (some (.inr false))
      (cond (decide ((1 : Int) < (Option.getD (mget (.i .i64) (mput (.i .i64) met z1 (IntKind.wrap .i64 ((Option.getD (mget (.i .i64) met z1) (0 : Int)) + (1 : Int)))) z1) (0 : Int))))
        (some (.inr false))
        ((tl_u56_1 N m (n, (v30, (v31, ((IntKind.wrap .i64 (v32 + (1 : Int))), (mput (.i .i64) met z1 (IntKind.wrap .i64 ((Option.getD (mget (.i .i64) met z1) (0 : Int)) + (1 : Int)))))))))))))
  (some (.inl ()))
theorem q_l_u56_1 (N : Nat) : ∀ (m : Nat) (v : Int × (List Int) × Int × Int × (List (Int × Int))), l_u56_1 N m v = tl_u56_1 N m v
 | 0, _ => by kernel_rfl
 | m + 1, (n, v30, v31, v32, met) => by
   rw [l_u56_1_s, tl_u56_1, (fcP fcI (fcP (fcL fcI) (fcP fcI (fcP fcI (fcL (fcP fcI fcI)))))).ok]
   all_goals first | rfl | (simp only [bitI_eq, dem_D, q_l_u56_1 N m]; done) | (simp only [bitI_eq, dem_D, q_l_u56_1 N m]; rfl)
def t_u56 : Nat → (List Int) × (List Int) → Option (Bool)
 | 0, _ => none
 | N + 1, v => (fcP (fcL fcI) (fcL fcI)).f v fun (p, p2) => cond (decide ((((List.length p) : Nat) : Int) = (0 : Int)))
  (some false)
  (cond (decide ((1000 : Int) < (((List.length p) : Nat) : Int)))
    (some false)
    (obind (t_u24 N p) fun z1 =>
     cond (decide (z1 < (0 : Int)))
      (some false)
      (obind (t_u23 N p) fun z2 =>
       cond (decide ((1073741824 : Int) < z2))
        (some false)
        (obind (tl_u56_1 N N ((((List.length p) : Nat) : Int), (p2, ((((List.length p2) : Nat) : Int), ((0 : Int), []))))) fun z3 =>
         (match z3 with
         | .inl zy4 => some true
         | .inr zy5 => some zy5)))))
theorem q_m_u56 : ∀ (N : Nat) (v : (List Int) × (List Int)), m_u56 N v = t_u56 N v
 | 0, _ => by kernel_rfl
 | N + 1, (p, p2) => by
   rw [m_u56_eq, t_u56, (fcP (fcL fcI) (fcL fcI)).ok]
   all_goals first | rfl | (simp only [q_l_u56_1, q_m_u23, q_m_u24, bitI_eq, dem_D]; done) | (simp only [q_l_u56_1, q_m_u23, q_m_u24, bitI_eq, dem_D]; rfl)
def tl_u21_1 (N : Nat) : Nat → (List Int) × Int × Int × Int → Option ((Unit) ⊕ (Int))
 | 0, _ => none
 | m + 1, v => (fcP (fcL fcI) (fcP fcI (fcP fcI fcI))).f v fun (s, v, v7, v8) => cond (decide (v8 < v7))
  (obind (nthI s v8) fun z1 =>
   cond (decide (v = z1))
    (some (.inr v8))
    ((tl_u21_1 N m (s, (v, (v7, (IntKind.wrap .i64 (v8 + (1 : Int)))))))))
  (some (.inl ()))
theorem q_l_u21_1 (N : Nat) : ∀ (m : Nat) (v : (List Int) × Int × Int × Int), l_u21_1 N m v = tl_u21_1 N m v
 | 0, _ => by kernel_rfl
 | m + 1, (s, v, v7, v8) => by
   rw [l_u21_1_s, tl_u21_1, (fcP (fcL fcI) (fcP fcI (fcP fcI fcI))).ok]
   all_goals first | rfl | (simp only [bitI_eq, dem_D, q_l_u21_1 N m]; done) | (simp only [bitI_eq, dem_D, q_l_u21_1 N m]; rfl)
def t_u21 : Nat → (List Int) × Int → Option (Int)
 | 0, _ => none
 | N + 1, v => (fcP (fcL fcI) fcI).f v fun (s, v) => obind (tl_u21_1 N N (s, (v, ((((List.length s) : Nat) : Int), (0 : Int))))) fun z1 =>
 (match z1 with
 | .inl zy2 => some (-(1 : Int))
 | .inr zy3 => some zy3)
theorem q_m_u21 : ∀ (N : Nat) (v : (List Int) × Int), m_u21 N v = t_u21 N v
 | 0, _ => by kernel_rfl
 | N + 1, (s, v) => by
   rw [m_u21_eq, t_u21, (fcP (fcL fcI) fcI).ok]
   all_goals first | rfl | (simp only [q_l_u21_1, bitI_eq, dem_D]; done) | (simp only [q_l_u21_1, bitI_eq, dem_D]; rfl)
def t_u17 : Nat → (List Int) × Int → Option (Bool)
 | 0, _ => none
 | N + 1, v => (fcP (fcL fcI) fcI).f v fun (s, v) => obind (t_u21 N (s, v)) fun z1 =>
 some (decide ((0 : Int) ≤ z1))
theorem q_m_u17 : ∀ (N : Nat) (v : (List Int) × Int), m_u17 N v = t_u17 N v
 | 0, _ => by kernel_rfl
 | N + 1, (s, v) => by
   rw [m_u17_eq, t_u17, (fcP (fcL fcI) fcI).ok]
   all_goals first | rfl | (simp only [q_m_u21, bitI_eq, dem_D]; done) | (simp only [q_m_u21, bitI_eq, dem_D]; rfl)
def t_u51 : Nat → Int × Int × (List (Int × Int)) → Option (Bool)
 | 0, _ => none
 | N + 1, v => (fcP fcI (fcP fcI (fcL (fcP fcI fcI)))).f v fun (x, x2, x3) => cond (decide (x = (0 : Int)))
  (cond (decide (x2 = (0 : Int)))
    (some (decide ((((List.length x3) : Nat) : Int) = (0 : Int))))
    (some false))
  (some false)
theorem q_m_u51 : ∀ (N : Nat) (v : Int × Int × (List (Int × Int))), m_u51 N v = t_u51 N v
 | 0, _ => by kernel_rfl
 | N + 1, (x, x2, x3) => by
   rw [m_u51_eq, t_u51, (fcP fcI (fcP fcI (fcL (fcP fcI fcI)))).ok]
   all_goals first | rfl | (simp only [bitI_eq, dem_D]; done) | (simp only [bitI_eq, dem_D]; rfl)
def t_u73 : Nat → (List Int) × (List Int) × Int × Int → Option (Bool)
 | 0, _ => none
 | N + 1, v => (fcP (fcL fcI) (fcP (fcL fcI) (fcP fcI fcI))).f v fun (p, p2, h, h2) => obind (t_u56 N (p, p2)) fun z1 =>
 cond z1
  (cond (decide ((0 : Int) ≤ h))
    (cond (decide (h < (((List.length p) : Nat) : Int)))
      (obind (nthI p h) fun z2 =>
       cond (decide (z2 = h2))
        (obind (t_u17 N (p2, h)) fun z3 =>
         some (!z3))
        (some false))
      (some false))
    (some false))
  (some false)
theorem q_m_u73 : ∀ (N : Nat) (v : (List Int) × (List Int) × Int × Int), m_u73 N v = t_u73 N v
 | 0, _ => by kernel_rfl
 | N + 1, (p, p2, h, h2) => by
   rw [m_u73_eq, t_u73, (fcP (fcL fcI) (fcP (fcL fcI) (fcP fcI fcI))).ok]
   all_goals first | rfl | (simp only [q_m_u56, q_m_u17, bitI_eq, dem_D]; done) | (simp only [q_m_u56, q_m_u17, bitI_eq, dem_D]; rfl)
def t_u25 : Nat → Int × Int × (List Int) × (List Int) → Option (Bool × (List Int) × (List Int))
 | 0, _ => none
 | N + 1, v => (fcP fcI (fcP fcI (fcP (fcL fcI) (fcL fcI)))).f v fun (h, h2, v4294967296, v42949672962) => obind (t_u73 N (v4294967296, (v42949672962, (h, h2)))) fun z1 =>
 some ((!z1), (v4294967296, v42949672962))
theorem q_m_u25 : ∀ (N : Nat) (v : Int × Int × (List Int) × (List Int)), m_u25 N v = t_u25 N v
 | 0, _ => by kernel_rfl
 | N + 1, (h, h2, v4294967296, v42949672962) => by
   rw [m_u25_eq, t_u25, (fcP fcI (fcP fcI (fcP (fcL fcI) (fcL fcI)))).ok]
   all_goals first | rfl | (simp only [q_m_u73, bitI_eq, dem_D]; done) | (simp only [q_m_u73, bitI_eq, dem_D]; rfl)
def tl_u4_1 (N : Nat) : Nat → (List (Int × Int)) × Int × Int × (List Int) × (List Int) → Option (((List Int) × (List Int)) ⊕ (Int × (List Int) × (List Int)))
 | 0, _ => none
 | m + 1, v => (fcP (fcL (fcP fcI fcI)) (fcP fcI (fcP fcI (fcP (fcL fcI) (fcL fcI))))).f v fun (s, v7, v8, f, f2) => cond (decide (v8 < v7))
  (obind (nthI s v8) fun z1 =>
   obind (t_u25 N (z1.1, (z1.2, (f, f2)))) fun z2 =>
   cond z2.1
    (some (.inr (v8, (z2.2.1, z2.2.2))))
    ((tl_u4_1 N m (s, (v7, ((IntKind.wrap .i64 (v8 + (1 : Int))), (z2.2.1, z2.2.2)))))))
  (some (.inl (f, f2)))
theorem q_l_u4_1 (N : Nat) : ∀ (m : Nat) (v : (List (Int × Int)) × Int × Int × (List Int) × (List Int)), l_u4_1 N m v = tl_u4_1 N m v
 | 0, _ => by kernel_rfl
 | m + 1, (s, v7, v8, f, f2) => by
   rw [l_u4_1_s, tl_u4_1, (fcP (fcL (fcP fcI fcI)) (fcP fcI (fcP fcI (fcP (fcL fcI) (fcL fcI))))).ok]
   all_goals first | rfl | (simp only [q_m_u25, bitI_eq, dem_D, q_l_u4_1 N m]; done) | (simp only [q_m_u25, bitI_eq, dem_D, q_l_u4_1 N m]; rfl)
def t_u4 : Nat → (List (Int × Int)) × (List Int) × (List Int) → Option (Int × (List Int) × (List Int))
 | 0, _ => none
 | N + 1, v => (fcP (fcL (fcP fcI fcI)) (fcP (fcL fcI) (fcL fcI))).f v fun (s, f, f2) => obind (tl_u4_1 N N (s, ((((List.length s) : Nat) : Int), ((0 : Int), (f, f2))))) fun z1 =>
 (match z1 with
 | .inl zy2 => some ((-(1 : Int)), (zy2.1, zy2.2))
 | .inr zy3 => some (zy3.1, (zy3.2.1, zy3.2.2)))
theorem q_m_u4 : ∀ (N : Nat) (v : (List (Int × Int)) × (List Int) × (List Int)), m_u4 N v = t_u4 N v
 | 0, _ => by kernel_rfl
 | N + 1, (s, f, f2) => by
   rw [m_u4_eq, t_u4, (fcP (fcL (fcP fcI fcI)) (fcP (fcL fcI) (fcL fcI))).ok]
   all_goals first | rfl | (simp only [q_l_u4_1, bitI_eq, dem_D]; done) | (simp only [q_l_u4_1, bitI_eq, dem_D]; rfl)
def t_u0 : Nat → (List (Int × Int)) × (List Int) × (List Int) → Option (Bool × (List Int) × (List Int))
 | 0, _ => none
 | N + 1, v => (fcP (fcL (fcP fcI fcI)) (fcP (fcL fcI) (fcL fcI))).f v fun (s, f, f2) => obind (t_u4 N (s, (f, f2))) fun z1 =>
 some ((decide ((0 : Int) ≤ z1.1)), (z1.2.1, z1.2.2))
theorem q_m_u0 : ∀ (N : Nat) (v : (List (Int × Int)) × (List Int) × (List Int)), m_u0 N v = t_u0 N v
 | 0, _ => by kernel_rfl
 | N + 1, (s, f, f2) => by
   rw [m_u0_eq, t_u0, (fcP (fcL (fcP fcI fcI)) (fcP (fcL fcI) (fcL fcI))).ok]
   all_goals first | rfl | (simp only [q_m_u4, bitI_eq, dem_D]; done) | (simp only [q_m_u4, bitI_eq, dem_D]; rfl)
def t_u66 : Nat → (List Int) × (List Int) × Int × Int × (List (Int × Int)) → Option (Bool)
 | 0, _ => none
 | N + 1, v => (fcP (fcL fcI) (fcP (fcL fcI) (fcP fcI (fcP fcI (fcL (fcP fcI fcI)))))).f v fun (p, p2, x, x2, x3) => cond (decide (x < (0 : Int)))
  (some false)
  (cond (decide (x2 < (1 : Int)))
    (some false)
    (cond (decide ((8 : Int) < x2))
      (some false)
      (cond (!(decide ((((List.length x3) : Nat) : Int) = x2)))
        (some false)
        (obind (t_u0 N (x3, (p, p2))) fun z1 =>
         some (!z1.1)))))
theorem q_m_u66 : ∀ (N : Nat) (v : (List Int) × (List Int) × Int × Int × (List (Int × Int))), m_u66 N v = t_u66 N v
 | 0, _ => by kernel_rfl
 | N + 1, (p, p2, x, x2, x3) => by
   rw [m_u66_eq, t_u66, (fcP (fcL fcI) (fcP (fcL fcI) (fcP fcI (fcP fcI (fcL (fcP fcI fcI)))))).ok]
   all_goals first | rfl | (simp only [q_m_u0, bitI_eq, dem_D]; done) | (simp only [q_m_u0, bitI_eq, dem_D]; rfl)
def tl_u50_1 (N : Nat) : Nat → (List (Int × (Int × (List (Int × Int))))) × Int × Int × (List Int) × (List Int) × (List (Int × (Int × (List (Int × Int))))) → Option ((Unit) ⊕ (Bool))
 | 0, _ => none
 | m + 1, v => (fcP (fcL (fcP fcI (fcP fcI (fcL (fcP fcI fcI))))) (fcP fcI (fcP fcI (fcP (fcL fcI) (fcP (fcL fcI) (fcL (fcP fcI (fcP fcI (fcL (fcP fcI fcI)))))))))).f v fun (v20, v21, v22, s, s2, s3) => cond (decide (v22 < v21))
  (obind (nthI v20 v22) fun z1 =>
   obind (t_u17 N (s2, v22)) fun z2 =>
   cond z2
    (obind (t_u51 N (z1.1, (z1.2.1, z1.2.2))) fun z3 =>
     cond (!z3)
      (some (.inr false))
      ((tl_u50_1 N m (v20, (v21, ((IntKind.wrap .i64 (v22 + (1 : Int))), (s, (s2, s3))))))))
    (obind (t_u66 N (s, (s2, (z1.1, (z1.2.1, z1.2.2))))) fun z4 =>
     cond (!z4)
      (some (.inr false))
      ((tl_u50_1 N m (v20, (v21, ((IntKind.wrap .i64 (v22 + (1 : Int))), (s, (s2, s3)))))))))
  (some (.inl ()))
theorem q_l_u50_1 (N : Nat) : ∀ (m : Nat) (v : (List (Int × (Int × (List (Int × Int))))) × Int × Int × (List Int) × (List Int) × (List (Int × (Int × (List (Int × Int)))))), l_u50_1 N m v = tl_u50_1 N m v
 | 0, _ => by kernel_rfl
 | m + 1, (v20, v21, v22, s, s2, s3) => by
   rw [l_u50_1_s, tl_u50_1, (fcP (fcL (fcP fcI (fcP fcI (fcL (fcP fcI fcI))))) (fcP fcI (fcP fcI (fcP (fcL fcI) (fcP (fcL fcI) (fcL (fcP fcI (fcP fcI (fcL (fcP fcI fcI)))))))))).ok]
   all_goals first | rfl | (simp only [q_m_u17, q_m_u51, q_m_u66, bitI_eq, dem_D, q_l_u50_1 N m]; done) | (simp only [q_m_u17, q_m_u51, q_m_u66, bitI_eq, dem_D, q_l_u50_1 N m]; rfl)
def t_u50 : Nat → (List Int) × (List Int) × (List (Int × (Int × (List (Int × Int))))) → Option (Bool)
 | 0, _ => none
 | N + 1, v => (fcP (fcL fcI) (fcP (fcL fcI) (fcL (fcP fcI (fcP fcI (fcL (fcP fcI fcI))))))).f v fun (s, s2, s3) => obind (t_u56 N (s, s2)) fun z1 =>
 cond (!z1)
  (some false)
  (cond (!(decide ((((List.length s3) : Nat) : Int) = (((List.length s) : Nat) : Int))))
    (some false)
    (obind (tl_u50_1 N N (s3, ((((List.length s3) : Nat) : Int), ((0 : Int), (s, (s2, s3)))))) fun z2 =>
     (match z2 with
     | .inl zy3 => some true
     | .inr zy4 => some zy4)))
theorem q_m_u50 : ∀ (N : Nat) (v : (List Int) × (List Int) × (List (Int × (Int × (List (Int × Int)))))), m_u50 N v = t_u50 N v
 | 0, _ => by kernel_rfl
 | N + 1, (s, s2, s3) => by
   rw [m_u50_eq, t_u50, (fcP (fcL fcI) (fcP (fcL fcI) (fcL (fcP fcI (fcP fcI (fcL (fcP fcI fcI))))))).ok]
   all_goals first | rfl | (simp only [q_l_u50_1, q_m_u56, bitI_eq, dem_D]; done) | (simp only [q_l_u50_1, q_m_u56, bitI_eq, dem_D]; rfl)
def t_u36 : Nat → Int → Option (Bool)
 | 0, _ => none
 | N + 1, v => fcI.f v fun (t) => cond (decide (t < (0 : Int)))
  (some true)
  (some (decide ((10000 : Int) < t)))
theorem q_m_u36 : ∀ (N : Nat) (v : Int), m_u36 N v = t_u36 N v
 | 0, _ => by kernel_rfl
 | N + 1, (t) => by
   rw [m_u36_eq, t_u36, fcI.ok]
   all_goals first | rfl | (simp only [bitI_eq, dem_D]; done) | (simp only [bitI_eq, dem_D]; rfl)
def tl_u12_1 (N : Nat) : Nat → (List Int) × Int × Int → Option ((Unit) ⊕ (Int))
 | 0, _ => none
 | m + 1, v => (fcP (fcL fcI) (fcP fcI fcI)).f v fun (s, v7, v8) => cond (decide (v8 < v7))
  (obind (nthI s v8) fun z1 =>
   obind (t_u36 N z1) fun z2 =>
   cond z2
    (some (.inr v8))
    ((tl_u12_1 N m (s, (v7, (IntKind.wrap .i64 (v8 + (1 : Int))))))))
  (some (.inl ()))
theorem q_l_u12_1 (N : Nat) : ∀ (m : Nat) (v : (List Int) × Int × Int), l_u12_1 N m v = tl_u12_1 N m v
 | 0, _ => by kernel_rfl
 | m + 1, (s, v7, v8) => by
   rw [l_u12_1_s, tl_u12_1, (fcP (fcL fcI) (fcP fcI fcI)).ok]
   all_goals first | rfl | (simp only [q_m_u36, bitI_eq, dem_D, q_l_u12_1 N m]; done) | (simp only [q_m_u36, bitI_eq, dem_D, q_l_u12_1 N m]; rfl)
def t_u12 : Nat → (List Int) → Option (Int)
 | 0, _ => none
 | N + 1, v => (fcL fcI).f v fun (s) => obind (tl_u12_1 N N (s, ((((List.length s) : Nat) : Int), (0 : Int)))) fun z1 =>
 (match z1 with
 | .inl zy2 => some (-(1 : Int))
 | .inr zy3 => some zy3)
theorem q_m_u12 : ∀ (N : Nat) (v : (List Int)), m_u12 N v = t_u12 N v
 | 0, _ => by kernel_rfl
 | N + 1, (s) => by
   rw [m_u12_eq, t_u12, (fcL fcI).ok]
   all_goals first | rfl | (simp only [q_l_u12_1, bitI_eq, dem_D]; done) | (simp only [q_l_u12_1, bitI_eq, dem_D]; rfl)
def t_u8 : Nat → (List Int) → Option (Bool)
 | 0, _ => none
 | N + 1, v => (fcL fcI).f v fun (s) => obind (t_u12 N s) fun z1 =>
 some (decide ((0 : Int) ≤ z1))
theorem q_m_u8 : ∀ (N : Nat) (v : (List Int)), m_u8 N v = t_u8 N v
 | 0, _ => by kernel_rfl
 | N + 1, (s) => by
   rw [m_u8_eq, t_u8, (fcL fcI).ok]
   all_goals first | rfl | (simp only [q_m_u12, bitI_eq, dem_D]; done) | (simp only [q_m_u12, bitI_eq, dem_D]; rfl)
def tl_u32_1 (N : Nat) : Nat → (List Int) × (List Int) × Int × Int × (List (Int × Int)) → Option ((List Int) × (List (Int × Int)))
 | 0, _ => none
 | m + 1, v => (fcP (fcL fcI) (fcP (fcL fcI) (fcP fcI (fcP fcI (fcL (fcP fcI fcI)))))).f v fun (l, v7, v8, v9, met) => cond (decide (v9 < v8))
  (obind (nthI v7 v9) fun z1 =>
   (tl_u32_1 N m (l, (v7, (v8, ((IntKind.wrap .i64 (v9 + (1 : Int))), (mput (.i .i64) met z1 (IntKind.wrap .i64 ((Option.getD (mget (.i .i64) met z1) (0 : Int)) + (1 : Int))))))))))
  (some (l, met))
theorem q_l_u32_1 (N : Nat) : ∀ (m : Nat) (v : (List Int) × (List Int) × Int × Int × (List (Int × Int))), l_u32_1 N m v = tl_u32_1 N m v
 | 0, _ => by kernel_rfl
 | m + 1, (l, v7, v8, v9, met) => by
   rw [l_u32_1_s, tl_u32_1, (fcP (fcL fcI) (fcP (fcL fcI) (fcP fcI (fcP fcI (fcL (fcP fcI fcI)))))).ok]
   all_goals first | rfl | (simp only [bitI_eq, dem_D, q_l_u32_1 N m]; done) | (simp only [bitI_eq, dem_D, q_l_u32_1 N m]; rfl)
def t_u32 : Nat → (List Int) → Option (Bool)
 | 0, _ => none
 | N + 1, v => (fcL fcI).f v fun (l) => obind (tl_u32_1 N N (l, (l, ((((List.length l) : Nat) : Int), ((0 : Int), []))))) fun z1 =>
 some (decide ((((List.length z1.2) : Nat) : Int) = (((List.length z1.1) : Nat) : Int)))
theorem q_m_u32 : ∀ (N : Nat) (v : (List Int)), m_u32 N v = t_u32 N v
 | 0, _ => by kernel_rfl
 | N + 1, (l) => by
   rw [m_u32_eq, t_u32, (fcL fcI).ok]
   all_goals first | rfl | (simp only [q_l_u32_1, bitI_eq, dem_D]; done) | (simp only [q_l_u32_1, bitI_eq, dem_D]; rfl)
def t_u62 : Nat → (List Int) → Option (Bool)
 | 0, _ => none
 | N + 1, v => (fcL fcI).f v fun (l) => cond (decide ((1000 : Int) < (((List.length l) : Nat) : Int)))
  (some false)
  (obind (t_u8 N l) fun z1 =>
   cond (!z1)
    (obind (t_u32 N l) fun z2 =>
     some z2)
    (some false))
theorem q_m_u62 : ∀ (N : Nat) (v : (List Int)), m_u62 N v = t_u62 N v
 | 0, _ => by kernel_rfl
 | N + 1, (l) => by
   rw [m_u62_eq, t_u62, (fcL fcI).ok]
   all_goals first | rfl | (simp only [q_m_u32, q_m_u8, bitI_eq, dem_D]; done) | (simp only [q_m_u32, q_m_u8, bitI_eq, dem_D]; rfl)
def t_u71 : Nat → Int → Option (Bool)
 | 0, _ => none
 | N + 1, v => fcI.f v fun (h) => cond (decide ((1 : Int) ≤ h))
  (some (decide (h ≤ (8 : Int))))
  (some false)
theorem q_m_u71 : ∀ (N : Nat) (v : Int), m_u71 N v = t_u71 N v
 | 0, _ => by kernel_rfl
 | N + 1, (h) => by
   rw [m_u71_eq, t_u71, fcI.ok]
   all_goals first | rfl | (simp only [bitI_eq, dem_D]; done) | (simp only [bitI_eq, dem_D]; rfl)
def t_u33 : Nat → Int → Option (Bool)
 | 0, _ => none
 | N + 1, v => fcI.f v fun (h) => obind (t_u71 N h) fun z1 =>
 some (!z1)
theorem q_m_u33 : ∀ (N : Nat) (v : Int), m_u33 N v = t_u33 N v
 | 0, _ => by kernel_rfl
 | N + 1, (h) => by
   rw [m_u33_eq, t_u33, fcI.ok]
   all_goals first | rfl | (simp only [q_m_u71, bitI_eq, dem_D]; done) | (simp only [q_m_u71, bitI_eq, dem_D]; rfl)
def tl_u9_1 (N : Nat) : Nat → (List Int) × Int × Int → Option ((Unit) ⊕ (Int))
 | 0, _ => none
 | m + 1, v => (fcP (fcL fcI) (fcP fcI fcI)).f v fun (s, v7, v8) => cond (decide (v8 < v7))
  (obind (nthI s v8) fun z1 =>
   obind (t_u33 N z1) fun z2 =>
   cond z2
    (some (.inr v8))
    ((tl_u9_1 N m (s, (v7, (IntKind.wrap .i64 (v8 + (1 : Int))))))))
  (some (.inl ()))
theorem q_l_u9_1 (N : Nat) : ∀ (m : Nat) (v : (List Int) × Int × Int), l_u9_1 N m v = tl_u9_1 N m v
 | 0, _ => by kernel_rfl
 | m + 1, (s, v7, v8) => by
   rw [l_u9_1_s, tl_u9_1, (fcP (fcL fcI) (fcP fcI fcI)).ok]
   all_goals first | rfl | (simp only [q_m_u33, bitI_eq, dem_D, q_l_u9_1 N m]; done) | (simp only [q_m_u33, bitI_eq, dem_D, q_l_u9_1 N m]; rfl)
def t_u9 : Nat → (List Int) → Option (Int)
 | 0, _ => none
 | N + 1, v => (fcL fcI).f v fun (s) => obind (tl_u9_1 N N (s, ((((List.length s) : Nat) : Int), (0 : Int)))) fun z1 =>
 (match z1 with
 | .inl zy2 => some (-(1 : Int))
 | .inr zy3 => some zy3)
theorem q_m_u9 : ∀ (N : Nat) (v : (List Int)), m_u9 N v = t_u9 N v
 | 0, _ => by kernel_rfl
 | N + 1, (s) => by
   rw [m_u9_eq, t_u9, (fcL fcI).ok]
   all_goals first | rfl | (simp only [q_l_u9_1, bitI_eq, dem_D]; done) | (simp only [q_l_u9_1, bitI_eq, dem_D]; rfl)
def t_u7 : Nat → (List Int) → Option (Bool)
 | 0, _ => none
 | N + 1, v => (fcL fcI).f v fun (s) => obind (t_u9 N s) fun z1 =>
 some (decide ((0 : Int) ≤ z1))
theorem q_m_u7 : ∀ (N : Nat) (v : (List Int)), m_u7 N v = t_u7 N v
 | 0, _ => by kernel_rfl
 | N + 1, (s) => by
   rw [m_u7_eq, t_u7, (fcL fcI).ok]
   all_goals first | rfl | (simp only [q_m_u9, bitI_eq, dem_D]; done) | (simp only [q_m_u9, bitI_eq, dem_D]; rfl)
def t_u19 : Nat → (List Int) → Option ((List Int))
 | 0, _ => none
 | N + 1, v => (fcL fcI).f v fun (s) => cond (isNilB s)
  (demD fun zb1 =>
   cond zb1
    (some [])
    (obind (appI (8 : Nat) [] s) fun z2 =>
     some z2))
  (obind (appI (8 : Nat) [] s) fun z3 =>
   some z3)
theorem q_m_u19 : ∀ (N : Nat) (v : (List Int)), m_u19 N v = t_u19 N v
 | 0, _ => by kernel_rfl
 | N + 1, (s) => by
   rw [m_u19_eq, t_u19, (fcL fcI).ok]
   all_goals first | rfl | (simp only [bitI_eq, dem_D]; done) | (simp only [bitI_eq, dem_D]; rfl)
def tl_u54_3 (N : Nat) : Nat → (List Int) × Int × Int × Int × Int × Int × Int × (List Int) × (List Int) × (List Int) × (List (List Int)) → Option ((List Int) × Int × Int × Int × (List Int) × (List Int) × (List Int) × (List (List Int)))
 | 0, _ => none
 | m + 1, v => (fcP (fcL fcI) (fcP fcI (fcP fcI (fcP fcI (fcP fcI (fcP fcI (fcP fcI (fcP (fcL fcI) (fcP (fcL fcI) (fcP (fcL fcI) (fcL (fcL fcI)))))))))))).f v fun (heights, n, i, v42, v43, v68, v69, behind, v903, v904, v905) => cond (decide (v69 < v68))
  (obind (nthI (List.range (8 : Nat)) v69) fun z1 =>
   obind (nthI behind v69) fun z2 =>
   obind (nthI behind v69) fun z3 =>
   (tl_u54_3 N m (heights, (n, (i, (v42, (v43, (v68, ((IntKind.wrap .i64 (v69 + (1 : Int))), ((List.set behind (Int.toNat v69) i), (v903, (v904, v905))))))))))))
  (some (heights, (n, (v42, (v43, (behind, (v903, (v904, v905))))))))
theorem q_l_u54_3 (N : Nat) : ∀ (m : Nat) (v : (List Int) × Int × Int × Int × Int × Int × Int × (List Int) × (List Int) × (List Int) × (List (List Int))), l_u54_3 N m v = tl_u54_3 N m v
 | 0, _ => by kernel_rfl
 | m + 1, (heights, n, i, v42, v43, v68, v69, behind, v903, v904, v905) => by
   rw [l_u54_3_s, tl_u54_3, (fcP (fcL fcI) (fcP fcI (fcP fcI (fcP fcI (fcP fcI (fcP fcI (fcP fcI (fcP (fcL fcI) (fcP (fcL fcI) (fcP (fcL fcI) (fcL (fcL fcI)))))))))))).ok]
   all_goals first | rfl | (simp only [bitI_eq, dem_D, q_l_u54_3 N m]; done) | (simp only [bitI_eq, dem_D, q_l_u54_3 N m]; rfl)
def tl_u54_2 (N : Nat) : Nat → (List Int) × Int × Int × Int × Int × Int × (List Int) × (List Int) × (List Int) × (List (List Int)) → Option ((List Int) × Int × Int × Int × Int × (List Int) × (List Int) × (List Int) × (List (List Int)))
 | 0, _ => none
 | m + 1, v => (fcP (fcL fcI) (fcP fcI (fcP fcI (fcP fcI (fcP fcI (fcP fcI (fcP (fcL fcI) (fcP (fcL fcI) (fcP (fcL fcI) (fcL (fcL fcI))))))))))).f v fun (heights, n, k, i, v42, v43, behind, v903, v904, v905) => cond (decide (n ≤ k))
  (obind (nthI heights i) fun z1 =>
   obind (subI (List.replicate (8 : Nat) ()) (0 : Int) z1) fun z2 =>
   cond ((Nat.ble ((Int.toNat (0 : Int)) + (Int.toNat (z1 - (0 : Int)))) (List.length behind)) && true)
    (obind (t_u19 N (List.take (Int.toNat (z1 - (0 : Int))) (List.drop (Int.toNat (0 : Int)) behind))) fun z3 =>
     obind (nthI v905 i) fun z4 =>
     obind (nthI v905 i) fun z5 =>
     some (heights, (n, (i, (v42, (v43, (behind, (v903, (v904, (List.set v905 (Int.toNat i) z3))))))))))
    (none))
  (some (heights, (n, (i, (v42, (v43, (behind, (v903, (v904, v905)))))))))
theorem q_l_u54_2 (N : Nat) : ∀ (m : Nat) (v : (List Int) × Int × Int × Int × Int × Int × (List Int) × (List Int) × (List Int) × (List (List Int))), l_u54_2 N m v = tl_u54_2 N m v
 | 0, _ => by kernel_rfl
 | m + 1, (heights, n, k, i, v42, v43, behind, v903, v904, v905) => by
   rw [l_u54_2_s, tl_u54_2, (fcP (fcL fcI) (fcP fcI (fcP fcI (fcP fcI (fcP fcI (fcP fcI (fcP (fcL fcI) (fcP (fcL fcI) (fcP (fcL fcI) (fcL (fcL fcI))))))))))).ok]
   all_goals first | rfl | (simp only [q_m_u19, bitI_eq, dem_D]; done) | (simp only [q_m_u19, bitI_eq, dem_D]; rfl)
def tl_u54_1 (N : Nat) : Nat → (List Int) × Int × Int × Int × (List Int) × (List Int) × (List Int) × (List (List Int)) → Option ((List Int) × (List Int) × (List (List Int)))
 | 0, _ => none
 | m + 1, v => (fcP (fcL fcI) (fcP fcI (fcP fcI (fcP fcI (fcP (fcL fcI) (fcP (fcL fcI) (fcP (fcL fcI) (fcL (fcL fcI))))))))).f v fun (heights, n, v42, v43, behind, v903, v904, v905) => cond (decide (v43 < v42))
  (obind (remI v43 n) fun z1 =>
   obind (tl_u54_2 N N (heights, (n, (v43, ((IntKind.wrap .i64 ((IntKind.wrap .i64 (n - (1 : Int))) - z1)), (v42, (v43, (behind, (v903, (v904, v905)))))))))) fun z2 =>
   obind (nthI z2.1 z2.2.2.1) fun z3 =>
   obind (tl_u54_3 N N (z2.1, (z2.2.1, (z2.2.2.1, (z2.2.2.2.1, (z2.2.2.2.2.1, (z3, ((0 : Int), (z2.2.2.2.2.2.1, (z2.2.2.2.2.2.2.1, (z2.2.2.2.2.2.2.2.1, z2.2.2.2.2.2.2.2.2))))))))))) fun z4 =>
   (tl_u54_1 N m (z4.1, (z4.2.1, (z4.2.2.1, ((IntKind.wrap .i64 (z4.2.2.2.1 + (1 : Int))), (z4.2.2.2.2.1, (z4.2.2.2.2.2.1, (z4.2.2.2.2.2.2.1, z4.2.2.2.2.2.2.2)))))))))
  (some (v903, (v904, v905)))
theorem q_l_u54_1 (N : Nat) : ∀ (m : Nat) (v : (List Int) × Int × Int × Int × (List Int) × (List Int) × (List Int) × (List (List Int))), l_u54_1 N m v = tl_u54_1 N m v
 | 0, _ => by kernel_rfl
 | m + 1, (heights, n, v42, v43, behind, v903, v904, v905) => by
   rw [l_u54_1_s, tl_u54_1, (fcP (fcL fcI) (fcP fcI (fcP fcI (fcP fcI (fcP (fcL fcI) (fcP (fcL fcI) (fcP (fcL fcI) (fcL (fcL fcI))))))))).ok]
   all_goals first | rfl | (simp only [q_l_u54_2, q_l_u54_3, bitI_eq, dem_D, q_l_u54_1 N m]; done) | (simp only [q_l_u54_2, q_l_u54_3, bitI_eq, dem_D, q_l_u54_1 N m]; rfl)
def t_u54 : Nat → (List Int) × (List Int) → Option (Int × (List Int) × (List Int) × (List (List Int)))
 | 0, _ => none
 | N + 1, v => (fcP (fcL fcI) (fcL fcI)).f v fun (tokens, heights) => cond (decide ((((List.length tokens) : Nat) : Int) = (0 : Int)))
  (some ((1 : Int), ([], ([], []))))
  (cond (!(decide ((((List.length heights) : Nat) : Int) = (((List.length tokens) : Nat) : Int))))
    (some ((1 : Int), ([], ([], []))))
    (obind (t_u62 N tokens) fun z1 =>
     cond (!z1)
      (some ((1 : Int), ([], ([], []))))
      (obind (t_u7 N heights) fun z2 =>
       cond z2
        (some ((1 : Int), ([], ([], []))))
        (obind (t_u19 N tokens) fun z3 =>
         obind (t_u19 N heights) fun z4 =>
         obind (makI (((List.length tokens) : Nat) : Int) (24 : Nat)) fun z5 =>
         obind (tl_u54_1 N N (heights, ((((List.length tokens) : Nat) : Int), ((IntKind.wrap .i64 ((2 : Int) * (((List.length tokens) : Nat) : Int))), ((0 : Int), ((List.replicate (8 : Nat) (0 : Int)), (z3, (z4, (List.replicate z5 []))))))))) fun z6 =>
         some ((0 : Int), (z6.1, (z6.2.1, z6.2.2)))))))
theorem q_m_u54 : ∀ (N : Nat) (v : (List Int) × (List Int)), m_u54 N v = t_u54 N v
 | 0, _ => by kernel_rfl
 | N + 1, (tokens, heights) => by
   rw [m_u54_eq, t_u54, (fcP (fcL fcI) (fcL fcI)).ok]
   all_goals first | rfl | (simp only [q_l_u54_1, q_m_u62, q_m_u19, q_m_u7, bitI_eq, dem_D]; done) | (simp only [q_l_u54_1, q_m_u62, q_m_u19, q_m_u7, bitI_eq, dem_D]; rfl)
def tl_u20_1 (N : Nat) : Nat → (List Int) × (List Int) × Int × Int → Option ((Unit) ⊕ (Bool))
 | 0, _ => none
 | m + 1, v => (fcP (fcL fcI) (fcP (fcL fcI) (fcP fcI fcI))).f v fun (s1, s2, v12, v13) => cond (decide (v13 < v12))
  (obind (nthI s1 v13) fun z1 =>
   obind (nthI s2 v13) fun z2 =>
   cond (!(decide (z1 = z2)))
    (some (.inr false))
    ((tl_u20_1 N m (s1, (s2, (v12, (IntKind.wrap .i64 (v13 + (1 : Int)))))))))
  (some (.inl ()))
theorem q_l_u20_1 (N : Nat) : ∀ (m : Nat) (v : (List Int) × (List Int) × Int × Int), l_u20_1 N m v = tl_u20_1 N m v
 | 0, _ => by kernel_rfl
 | m + 1, (s1, s2, v12, v13) => by
   rw [l_u20_1_s, tl_u20_1, (fcP (fcL fcI) (fcP (fcL fcI) (fcP fcI fcI))).ok]
   all_goals first | rfl | (simp only [bitI_eq, dem_D, q_l_u20_1 N m]; done) | (simp only [bitI_eq, dem_D, q_l_u20_1 N m]; rfl)
def t_u20 : Nat → (List Int) × (List Int) → Option (Bool)
 | 0, _ => none
 | N + 1, v => (fcP (fcL fcI) (fcL fcI)).f v fun (s1, s2) => cond (!(decide ((((List.length s1) : Nat) : Int) = (((List.length s2) : Nat) : Int))))
  (some false)
  (obind (tl_u20_1 N N (s1, (s2, ((((List.length s1) : Nat) : Int), (0 : Int))))) fun z1 =>
   (match z1 with
   | .inl zy2 => some true
   | .inr zy3 => some zy3))
theorem q_m_u20 : ∀ (N : Nat) (v : (List Int) × (List Int)), m_u20 N v = t_u20 N v
 | 0, _ => by kernel_rfl
 | N + 1, (s1, s2) => by
   rw [m_u20_eq, t_u20, (fcP (fcL fcI) (fcL fcI)).ok]
   all_goals first | rfl | (simp only [q_l_u20_1, bitI_eq, dem_D]; done) | (simp only [q_l_u20_1, bitI_eq, dem_D]; rfl)
def tl_u3_1 (N : Nat) : Nat → (List (List Int)) × (List (List Int)) × Int × Int → Option ((Unit) ⊕ (Bool))
 | 0, _ => none
 | m + 1, v => (fcP (fcL (fcL fcI)) (fcP (fcL (fcL fcI)) (fcP fcI fcI))).f v fun (s2, v15, v16, v17) => cond (decide (v17 < v16))
  (obind (nthI v15 v17) fun z1 =>
   obind (nthI s2 v17) fun z2 =>
   obind (t_u20 N (z1, z2)) fun z3 =>
   cond (!z3)
    (some (.inr false))
    ((tl_u3_1 N m (s2, (v15, (v16, (IntKind.wrap .i64 (v17 + (1 : Int)))))))))
  (some (.inl ()))
theorem q_l_u3_1 (N : Nat) : ∀ (m : Nat) (v : (List (List Int)) × (List (List Int)) × Int × Int), l_u3_1 N m v = tl_u3_1 N m v
 | 0, _ => by kernel_rfl
 | m + 1, (s2, v15, v16, v17) => by
   rw [l_u3_1_s, tl_u3_1, (fcP (fcL (fcL fcI)) (fcP (fcL (fcL fcI)) (fcP fcI fcI))).ok]
   all_goals first | rfl | (simp only [q_m_u20, bitI_eq, dem_D, q_l_u3_1 N m]; done) | (simp only [q_m_u20, bitI_eq, dem_D, q_l_u3_1 N m]; rfl)
def t_u3 : Nat → (List (List Int)) × (List (List Int)) → Option (Bool)
 | 0, _ => none
 | N + 1, v => (fcP (fcL (fcL fcI)) (fcL (fcL fcI))).f v fun (s1, s2) => cond (!(decide ((((List.length s1) : Nat) : Int) = (((List.length s2) : Nat) : Int))))
  (some false)
  (obind (tl_u3_1 N N (s2, (s1, ((((List.length s1) : Nat) : Int), (0 : Int))))) fun z1 =>
   (match z1 with
   | .inl zy2 => some true
   | .inr zy3 => some zy3))
theorem q_m_u3 : ∀ (N : Nat) (v : (List (List Int)) × (List (List Int))), m_u3 N v = t_u3 N v
 | 0, _ => by kernel_rfl
 | N + 1, (s1, s2) => by
   rw [m_u3_eq, t_u3, (fcP (fcL (fcL fcI)) (fcL (fcL fcI))).ok]
   all_goals first | rfl | (simp only [q_l_u3_1, bitI_eq, dem_D]; done) | (simp only [q_l_u3_1, bitI_eq, dem_D]; rfl)
def t_u70 : Nat → (List Int) × (List Int) × (List (List Int)) × (List Int) × (List Int) × (List (List Int)) → Option (Bool)
 | 0, _ => none
 | N + 1, v => (fcP (fcL fcI) (fcP (fcL fcI) (fcP (fcL (fcL fcI)) (fcP (fcL fcI) (fcP (fcL fcI) (fcL (fcL fcI))))))).f v fun (a, a2, a3, b, b2, b3) => obind (t_u20 N (a, b)) fun z1 =>
 cond z1
  (obind (t_u20 N (a2, b2)) fun z2 =>
   cond z2
    (obind (t_u3 N (a3, b3)) fun z3 =>
     some z3)
    (some false))
  (some false)
theorem q_m_u70 : ∀ (N : Nat) (v : (List Int) × (List Int) × (List (List Int)) × (List Int) × (List Int) × (List (List Int))), m_u70 N v = t_u70 N v
 | 0, _ => by kernel_rfl
 | N + 1, (a, a2, a3, b, b2, b3) => by
   rw [m_u70_eq, t_u70, (fcP (fcL fcI) (fcP (fcL fcI) (fcP (fcL (fcL fcI)) (fcP (fcL fcI) (fcP (fcL fcI) (fcL (fcL fcI))))))).ok]
   all_goals first | rfl | (simp only [q_m_u3, q_m_u20, bitI_eq, dem_D]; done) | (simp only [q_m_u3, q_m_u20, bitI_eq, dem_D]; rfl)
def t_u55 : Nat → (List Int) × (List Int) × (List (List Int)) → Option (Bool)
 | 0, _ => none
 | N + 1, v => (fcP (fcL fcI) (fcP (fcL fcI) (fcL (fcL fcI)))).f v fun (t, t2, t3) => obind (t_u54 N (t, t2)) fun z1 =>
 cond (decide (z1.1 = (0 : Int)))
  (obind (t_u70 N (z1.2.1, (z1.2.2.1, (z1.2.2.2, (t, (t2, t3)))))) fun z2 =>
   some z2)
  (some false)
theorem q_m_u55 : ∀ (N : Nat) (v : (List Int) × (List Int) × (List (List Int))), m_u55 N v = t_u55 N v
 | 0, _ => by kernel_rfl
 | N + 1, (t, t2, t3) => by
   rw [m_u55_eq, t_u55, (fcP (fcL fcI) (fcP (fcL fcI) (fcL (fcL fcI)))).ok]
   all_goals first | rfl | (simp only [q_m_u54, q_m_u70, bitI_eq, dem_D]; done) | (simp only [q_m_u54, q_m_u70, bitI_eq, dem_D]; rfl)
def t_u22 : Nat → (List Int) → Option ((List Int))
 | 0, _ => none
 | N + 1, v => (fcL fcI).f v fun (s) => obind (subM s (0 : Int) (((List.length s) : Nat) : Int) (((List.length s) : Nat) : Int)) fun z1 =>
 cond (decide ((((List.length s) : Nat) : Int) = (((List.length s) : Nat) : Int)))
  (some z1)
  (none)
theorem q_m_u22 : ∀ (N : Nat) (v : (List Int)), m_u22 N v = t_u22 N v
 | 0, _ => by kernel_rfl
 | N + 1, (s) => by
   rw [m_u22_eq, t_u22, (fcL fcI).ok]
   all_goals first | rfl | (simp only [bitI_eq, dem_D]; done) | (simp only [bitI_eq, dem_D]; rfl)
def t_u75 : Nat → (List Int) × (List Int) → Option (Int × (List Int) × (List Int) × Int × Int)
 | 0, _ => none
 | N + 1, v => (fcP (fcL fcI) (fcL fcI)).f v fun (p, p2) => obind (t_u56 N (p, p2)) fun z1 =>
 cond (!z1)
  (some ((1 : Int), (p, (p2, ((0 : Int), (0 : Int))))))
  (cond (decide ((IntKind.wrap .i64 ((((List.length p2) : Nat) : Int) - (1 : Int))) < (0 : Int)))
    (some ((2 : Int), (p, (p2, ((0 : Int), (0 : Int))))))
    (obind (nthI p2 (IntKind.wrap .i64 ((((List.length p2) : Nat) : Int) - (1 : Int)))) fun z2 =>
     obind (nthI p z2) fun z3 =>
     cond (decide (z3 = (1073741824 : Int)))
      (some ((2 : Int), (p, (p2, ((0 : Int), (0 : Int))))))
      (obind (nthI p2 (IntKind.wrap .i64 ((((List.length p2) : Nat) : Int) - (1 : Int)))) fun z4 =>
       obind (subI p2 (0 : Int) (IntKind.wrap .i64 ((((List.length p2) : Nat) : Int) - (1 : Int)))) fun z5 =>
       obind (t_u22 N z5) fun z6 =>
       obind (t_u19 N p) fun z7 =>
       obind (nthI z7 z4) fun z8 =>
       obind (nthI z7 z4) fun z9 =>
       obind (nthI z7 z4) fun z10 =>
       obind (nthI z7 z4) fun z11 =>
       obind (nthI (List.set z7 (Int.toNat z4) (IntKind.wrap .i64 (z9 + (1 : Int)))) z4) fun z12 =>
       obind (nthI (List.set z7 (Int.toNat z4) (IntKind.wrap .i64 (z9 + (1 : Int)))) z4) fun z13 =>
       some ((0 : Int), ((List.set z7 (Int.toNat z4) (IntKind.wrap .i64 (z9 + (1 : Int)))), (z6, (z4, z13)))))))
theorem q_m_u75 : ∀ (N : Nat) (v : (List Int) × (List Int)), m_u75 N v = t_u75 N v
 | 0, _ => by kernel_rfl
 | N + 1, (p, p2) => by
   rw [m_u75_eq, t_u75, (fcP (fcL fcI) (fcL fcI)).ok]
   all_goals first | rfl | (simp only [q_m_u56, q_m_u22, q_m_u19, bitI_eq, dem_D]; done) | (simp only [q_m_u56, q_m_u22, q_m_u19, bitI_eq, dem_D]; rfl)
def tl_u53_1 (N : Nat) : Nat → Int × Int × (List Int) × (List Int) × (List (Int × Int)) → Option (((List Int) × (List Int) × (List (Int × Int))) ⊕ (Int × (List Int) × (List Int)))
 | 0, _ => none
 | m + 1, v => (fcP fcI (fcP fcI (fcP (fcL fcI) (fcP (fcL fcI) (fcL (fcP fcI fcI)))))).f v fun (v8, v9, p, p2, l) => cond (decide (v9 < v8))
  (obind (t_u75 N (p, p2)) fun z1 =>
   cond (!(decide (z1.1 = (0 : Int))))
    (some (.inr (z1.1, (z1.2.1, z1.2.2.1))))
    (obind (appI (16 : Nat) l [(z1.2.2.2.1, z1.2.2.2.2)]) fun z2 =>
     (tl_u53_1 N m (v8, ((IntKind.wrap .i64 (v9 + (1 : Int))), (z1.2.1, (z1.2.2.1, z2)))))))
  (some (.inl (p, (p2, l))))
theorem q_l_u53_1 (N : Nat) : ∀ (m : Nat) (v : Int × Int × (List Int) × (List Int) × (List (Int × Int))), l_u53_1 N m v = tl_u53_1 N m v
 | 0, _ => by kernel_rfl
 | m + 1, (v8, v9, p, p2, l) => by
   rw [l_u53_1_s, tl_u53_1, (fcP fcI (fcP fcI (fcP (fcL fcI) (fcP (fcL fcI) (fcL (fcP fcI fcI)))))).ok]
   all_goals first | rfl | (simp only [q_m_u75, bitI_eq, dem_D, q_l_u53_1 N m]; done) | (simp only [q_m_u75, bitI_eq, dem_D, q_l_u53_1 N m]; rfl)
def t_u53 : Nat → (List Int) × (List Int) × Int → Option (Int × (List Int) × (List Int) × (List (Int × Int)))
 | 0, _ => none
 | N + 1, v => (fcP (fcL fcI) (fcP (fcL fcI) fcI)).f v fun (p, p2, n) => obind (tl_u53_1 N N (n, ((0 : Int), (p, (p2, []))))) fun z1 =>
 (match z1 with
 | .inl zy2 => some ((0 : Int), (zy2.1, (zy2.2.1, zy2.2.2)))
 | .inr zy3 => some (zy3.1, (zy3.2.1, (zy3.2.2, []))))
theorem q_m_u53 : ∀ (N : Nat) (v : (List Int) × (List Int) × Int), m_u53 N v = t_u53 N v
 | 0, _ => by kernel_rfl
 | N + 1, (p, p2, n) => by
   rw [m_u53_eq, t_u53, (fcP (fcL fcI) (fcP (fcL fcI) fcI)).ok]
   all_goals first | rfl | (simp only [q_l_u53_1, bitI_eq, dem_D]; done) | (simp only [q_l_u53_1, bitI_eq, dem_D]; rfl)
def t_u14 : Nat → (List (Int × (Int × (List (Int × Int))))) → Option ((List (Int × (Int × (List (Int × Int))))))
 | 0, _ => none
 | N + 1, v => (fcL (fcP fcI (fcP fcI (fcL (fcP fcI fcI))))).f v fun (s) => cond (isNilB s)
  (demD fun zb1 =>
   cond zb1
    (some [])
    (obind (appI (40 : Nat) [] s) fun z2 =>
     some z2))
  (obind (appI (40 : Nat) [] s) fun z3 =>
   some z3)
theorem q_m_u14 : ∀ (N : Nat) (v : (List (Int × (Int × (List (Int × Int)))))), m_u14 N v = t_u14 N v
 | 0, _ => by kernel_rfl
 | N + 1, (s) => by
   rw [m_u14_eq, t_u14, (fcL (fcP fcI (fcP fcI (fcL (fcP fcI fcI))))).ok]
   all_goals first | rfl | (simp only [bitI_eq, dem_D]; done) | (simp only [bitI_eq, dem_D]; rfl)
def tl_u79_2 (N : Nat) : Nat → Int × Int × (List Int) × Int × Int × (List Int) × (List Int) × (List (List Int)) × Int × Int × (List Int) × (List Int) × (List (Int × Int)) × (List (Int × (Int × (List (Int × Int))))) × Int × Int × Int × Int × (List (Int × Int)) → Option (Int × Int × (List Int) × (List Int) × (List (List Int)) × Int × Int × (List Int) × (List Int) × (List (Int × Int)) × (List (Int × (Int × (List (Int × Int))))) × Int × Int × Int × Int × (List (Int × Int)))
 | 0, _ => none
 | m + 1, v => (fcP fcI (fcP fcI (fcP (fcL fcI) (fcP fcI (fcP fcI (fcP (fcL fcI) (fcP (fcL fcI) (fcP (fcL (fcL fcI)) (fcP fcI (fcP fcI (fcP (fcL fcI) (fcP (fcL fcI) (fcP (fcL (fcP fcI fcI)) (fcP (fcL (fcP fcI (fcP fcI (fcL (fcP fcI fcI))))) (fcP fcI (fcP fcI (fcP fcI (fcP fcI (fcL (fcP fcI fcI)))))))))))))))))))).f v fun (v45, v46, v66, v67, v68, t, t2, t3, v5, v52, p, p2, l, nodes, h, h2, x, x2, v908) => cond (decide (v68 < v67))
  (obind (nthI v66 v68) fun z1 =>
   obind (nthI l z1) fun z2 =>
   obind (nthI l z1) fun z3 =>
   obind (appI (16 : Nat) v908 [(z3.1, z3.2)]) fun z4 =>
   (tl_u79_2 N m (v45, (v46, (v66, (v67, ((IntKind.wrap .i64 (v68 + (1 : Int))), (t, (t2, (t3, (v5, (v52, (p, (p2, (l, (nodes, (h, (h2, (x, (x2, z4))))))))))))))))))))
  (some (v45, (v46, (t, (t2, (t3, (v5, (v52, (p, (p2, (l, (nodes, (h, (h2, (x, (x2, v908))))))))))))))))
theorem q_l_u79_2 (N : Nat) : ∀ (m : Nat) (v : Int × Int × (List Int) × Int × Int × (List Int) × (List Int) × (List (List Int)) × Int × Int × (List Int) × (List Int) × (List (Int × Int)) × (List (Int × (Int × (List (Int × Int))))) × Int × Int × Int × Int × (List (Int × Int))), l_u79_2 N m v = tl_u79_2 N m v
 | 0, _ => by kernel_rfl
 | m + 1, (v45, v46, v66, v67, v68, t, t2, t3, v5, v52, p, p2, l, nodes, h, h2, x, x2, v908) => by
   rw [l_u79_2_s, tl_u79_2, (fcP fcI (fcP fcI (fcP (fcL fcI) (fcP fcI (fcP fcI (fcP (fcL fcI) (fcP (fcL fcI) (fcP (fcL (fcL fcI)) (fcP fcI (fcP fcI (fcP (fcL fcI) (fcP (fcL fcI) (fcP (fcL (fcP fcI fcI)) (fcP (fcL (fcP fcI (fcP fcI (fcL (fcP fcI fcI))))) (fcP fcI (fcP fcI (fcP fcI (fcP fcI (fcL (fcP fcI fcI)))))))))))))))))))).ok]
   all_goals first | rfl | (simp only [bitI_eq, dem_D, q_l_u79_2 N m]; done) | (simp only [bitI_eq, dem_D, q_l_u79_2 N m]; rfl)
def tl_u79_1 (N : Nat) : Nat → Int × Int × (List Int) × (List Int) × (List (List Int)) × Int × Int × (List Int) × (List Int) × (List (Int × Int)) × (List (Int × (Int × (List (Int × Int))))) → Option (Int × Int × (List Int) × (List Int) × (List (Int × Int)) × (List (Int × (Int × (List (Int × Int))))))
 | 0, _ => none
 | m + 1, v => (fcP fcI (fcP fcI (fcP (fcL fcI) (fcP (fcL fcI) (fcP (fcL (fcL fcI)) (fcP fcI (fcP fcI (fcP (fcL fcI) (fcP (fcL fcI) (fcP (fcL (fcP fcI fcI)) (fcL (fcP fcI (fcP fcI (fcL (fcP fcI fcI))))))))))))))).f v fun (v45, v46, t, t2, t3, v5, v52, p, p2, l, nodes) => cond (decide (v46 < v45))
  (obind (nthI l v46) fun z1 =>
   obind (nthI l v46) fun z2 =>
   obind (nthI t v46) fun z3 =>
   obind (nthI t2 v46) fun z4 =>
   obind (nthI t3 v46) fun z5 =>
   obind (tl_u79_2 N N (v45, (v46, (z5, ((((List.length z5) : Nat) : Int), ((0 : Int), (t, (t2, (t3, (v5, (v52, (p, (p2, (l, (nodes, (z2.1, (z2.2, (z3, (z4, []))))))))))))))))))) fun z6 =>
   obind (nthI z6.2.2.2.2.2.2.2.2.2.2.1 z6.2.2.2.2.2.2.2.2.2.2.2.1) fun z7 =>
   obind (nthI z6.2.2.2.2.2.2.2.2.2.2.1 z6.2.2.2.2.2.2.2.2.2.2.2.1) fun z8 =>
   (tl_u79_1 N m (z6.1, ((IntKind.wrap .i64 (z6.2.1 + (1 : Int))), (z6.2.2.1, (z6.2.2.2.1, (z6.2.2.2.2.1, (z6.2.2.2.2.2.1, (z6.2.2.2.2.2.2.1, (z6.2.2.2.2.2.2.2.1, (z6.2.2.2.2.2.2.2.2.1, (z6.2.2.2.2.2.2.2.2.2.1, (List.set z6.2.2.2.2.2.2.2.2.2.2.1 (Int.toNat z6.2.2.2.2.2.2.2.2.2.2.2.1) (z6.2.2.2.2.2.2.2.2.2.2.2.2.2.1, (z6.2.2.2.2.2.2.2.2.2.2.2.2.2.2.1, z6.2.2.2.2.2.2.2.2.2.2.2.2.2.2.2)))))))))))))))
  (some (v5, (v52, (p, (p2, (l, nodes))))))
theorem q_l_u79_1 (N : Nat) : ∀ (m : Nat) (v : Int × Int × (List Int) × (List Int) × (List (List Int)) × Int × Int × (List Int) × (List Int) × (List (Int × Int)) × (List (Int × (Int × (List (Int × Int)))))), l_u79_1 N m v = tl_u79_1 N m v
 | 0, _ => by kernel_rfl
 | m + 1, (v45, v46, t, t2, t3, v5, v52, p, p2, l, nodes) => by
   rw [l_u79_1_s, tl_u79_1, (fcP fcI (fcP fcI (fcP (fcL fcI) (fcP (fcL fcI) (fcP (fcL (fcL fcI)) (fcP fcI (fcP fcI (fcP (fcL fcI) (fcP (fcL fcI) (fcP (fcL (fcP fcI fcI)) (fcL (fcP fcI (fcP fcI (fcL (fcP fcI fcI))))))))))))))).ok]
   all_goals first | rfl | (simp only [q_l_u79_2, bitI_eq, dem_D, q_l_u79_1 N m]; done) | (simp only [q_l_u79_2, bitI_eq, dem_D, q_l_u79_1 N m]; rfl)
def t_u79 : Nat → (List Int) × (List Int) × (List (Int × (Int × (List (Int × Int))))) × (List Int) × (List Int) × (List (List Int)) → Option (Int × (List Int) × (List Int) × (List (Int × (Int × (List (Int × Int))))) × Int × Int)
 | 0, _ => none
 | N + 1, v => (fcP (fcL fcI) (fcP (fcL fcI) (fcP (fcL (fcP fcI (fcP fcI (fcL (fcP fcI fcI))))) (fcP (fcL fcI) (fcP (fcL fcI) (fcL (fcL fcI))))))).f v fun (s, s2, s3, t, t2, t3) => obind (t_u50 N (s, (s2, s3))) fun z1 =>
 cond (!z1)
  (some ((1 : Int), (s, (s2, (s3, ((0 : Int), (0 : Int)))))))
  (obind (t_u55 N (t, (t2, t3))) fun z2 =>
   cond (!z2)
    (some ((1 : Int), (s, (s2, (s3, ((0 : Int), (0 : Int)))))))
    (obind (t_u53 N (s, (s2, (((List.length t) : Nat) : Int)))) fun z3 =>
     cond (!(decide (z3.1 = (0 : Int))))
      (some (z3.1, (s, (s2, (s3, ((0 : Int), (0 : Int)))))))
      (obind (t_u14 N s3) fun z4 =>
       obind (tl_u79_1 N N ((((List.length z3.2.2.2) : Nat) : Int), ((0 : Int), (t, (t2, (t3, ((0 : Int), ((0 : Int), (z3.2.1, (z3.2.2.1, (z3.2.2.2, z4))))))))))) fun z5 =>
       obind (nthI z5.2.2.2.2.1 (0 : Int)) fun z6 =>
       obind (nthI z5.2.2.2.2.1 (0 : Int)) fun z7 =>
       some ((0 : Int), (z5.2.2.1, (z5.2.2.2.1, (z5.2.2.2.2.2, (z7.1, z7.2))))))))
theorem q_m_u79 : ∀ (N : Nat) (v : (List Int) × (List Int) × (List (Int × (Int × (List (Int × Int))))) × (List Int) × (List Int) × (List (List Int))), m_u79 N v = t_u79 N v
 | 0, _ => by kernel_rfl
 | N + 1, (s, s2, s3, t, t2, t3) => by
   rw [m_u79_eq, t_u79, (fcP (fcL fcI) (fcP (fcL fcI) (fcP (fcL (fcP fcI (fcP fcI (fcL (fcP fcI fcI))))) (fcP (fcL fcI) (fcP (fcL fcI) (fcL (fcL fcI))))))).ok]
   all_goals first | rfl | (simp only [q_l_u79_1, q_m_u14, q_m_u50, q_m_u53, q_m_u55, bitI_eq, dem_D]; done) | (simp only [q_l_u79_1, q_m_u14, q_m_u50, q_m_u53, q_m_u55, bitI_eq, dem_D]; rfl)
def tl_u15_1 (N : Nat) : Nat → (List Int) × (List Int) × (List (Int × (Int × (List (Int × Int))))) × Int × Int × (List ((Int × Int) × Int)) × (List (Int × Int)) → Option (Int × (List Int) × (List Int) × (List (Int × (Int × (List (Int × Int))))) × (List ((Int × Int) × Int)) × (List (Int × Int)))
 | 0, _ => none
 | m + 1, v => (fcP (fcL fcI) (fcP (fcL fcI) (fcP (fcL (fcP fcI (fcP fcI (fcL (fcP fcI fcI))))) (fcP fcI (fcP fcI (fcP (fcL (fcP (fcP fcI fcI) fcI)) (fcL (fcP fcI fcI)))))))).f v fun (r, r2, r3, h, h2, v4294967297, v901) => cond (Option.isSome (mget (.pr (.i .i64) (.i .i64)) v4294967297 (h, h2)))
  (some ((Option.getD (mget (.pr (.i .i64) (.i .i64)) v4294967297 (h, h2)) (0 : Int)), (r, (r2, (r3, (v4294967297, v901))))))
  (obind (appI (16 : Nat) v901 [(h, h2)]) fun z1 =>
   obind (nthI r3 h) fun z2 =>
   obind (nthI z2.2.2 (0 : Int)) fun z3 =>
   (tl_u15_1 N m (r, (r2, (r3, (z3.1, (z3.2, ((mput (.pr (.i .i64) (.i .i64)) v4294967297 (h, h2) (((List.length v901) : Nat) : Int)), z1))))))))
theorem q_l_u15_1 (N : Nat) : ∀ (m : Nat) (v : (List Int) × (List Int) × (List (Int × (Int × (List (Int × Int))))) × Int × Int × (List ((Int × Int) × Int)) × (List (Int × Int))), l_u15_1 N m v = tl_u15_1 N m v
 | 0, _ => by kernel_rfl
 | m + 1, (r, r2, r3, h, h2, v4294967297, v901) => by
   rw [l_u15_1_s, tl_u15_1, (fcP (fcL fcI) (fcP (fcL fcI) (fcP (fcL (fcP fcI (fcP fcI (fcL (fcP fcI fcI))))) (fcP fcI (fcP fcI (fcP (fcL (fcP (fcP fcI fcI) fcI)) (fcL (fcP fcI fcI)))))))).ok]
   all_goals first | rfl | (simp only [bitI_eq, dem_D, q_l_u15_1 N m]; done) | (simp only [bitI_eq, dem_D, q_l_u15_1 N m]; rfl)
def t_u15 : Nat → Int × Int × (List Int) × (List Int) × (List (Int × (Int × (List (Int × Int))))) × (List ((Int × Int) × Int)) → Option (Int × (List Int) × (List Int) × (List (Int × (Int × (List (Int × Int))))) × (List ((Int × Int) × Int)) × (List (Int × Int)))
 | 0, _ => none
 | N + 1, v => (fcP fcI (fcP fcI (fcP (fcL fcI) (fcP (fcL fcI) (fcP (fcL (fcP fcI (fcP fcI (fcL (fcP fcI fcI))))) (fcL (fcP (fcP fcI fcI) fcI))))))).f v fun (h, h2, r, r2, r3, h3) => obind (tl_u15_1 N N (r, (r2, (r3, (h, (h2, (h3, []))))))) fun z1 =>
 some (z1.1, (z1.2.1, (z1.2.2.1, (z1.2.2.2.1, (z1.2.2.2.2.1, z1.2.2.2.2.2)))))
theorem q_m_u15 : ∀ (N : Nat) (v : Int × Int × (List Int) × (List Int) × (List (Int × (Int × (List (Int × Int))))) × (List ((Int × Int) × Int))), m_u15 N v = t_u15 N v
 | 0, _ => by kernel_rfl
 | N + 1, (h, h2, r, r2, r3, h3) => by
   rw [m_u15_eq, t_u15, (fcP fcI (fcP fcI (fcP (fcL fcI) (fcP (fcL fcI) (fcP (fcL (fcP fcI (fcP fcI (fcL (fcP fcI fcI))))) (fcL (fcP (fcP fcI fcI) fcI))))))).ok]
   all_goals first | rfl | (simp only [q_l_u15_1, bitI_eq, dem_D]; done) | (simp only [q_l_u15_1, bitI_eq, dem_D]; rfl)
def tl_u16_2 (N : Nat) : Nat → Int × Int × (List (Int × Int)) × Int × Int × (List Int) × (List Int) × (List (Int × (Int × (List (Int × Int))))) × Int × Int × (List (Int × Int)) × (List Int) × (List (Int × Int)) × (List ((Int × Int) × Int)) × (List Int) × (List Int) × (List (List Int)) → Option ((Int × Int × (List Int) × (List Int) × (List (Int × (Int × (List (Int × Int))))) × Int × Int × (List (Int × Int)) × (List Int) × (List (Int × Int)) × (List ((Int × Int) × Int)) × (List Int) × (List Int) × (List (List Int))) ⊕ (Bool × (List Int) × (List Int) × (List (Int × (Int × (List (Int × Int))))) × (List (Int × Int)) × (List ((Int × Int) × Int))))
 | 0, _ => none
 | m + 1, v => (fcP fcI (fcP fcI (fcP (fcL (fcP fcI fcI)) (fcP fcI (fcP fcI (fcP (fcL fcI) (fcP (fcL fcI) (fcP (fcL (fcP fcI (fcP fcI (fcL (fcP fcI fcI))))) (fcP fcI (fcP fcI (fcP (fcL (fcP fcI fcI)) (fcP (fcL fcI) (fcP (fcL (fcP fcI fcI)) (fcP (fcL (fcP (fcP fcI fcI) fcI)) (fcP (fcL fcI) (fcP (fcL fcI) (fcL (fcL fcI)))))))))))))))))).f v fun (v16, v17, v31, v32, v33, r, r2, r3, x, x2, x3, v7, v15, v4294967298, v903, v904, v905) => cond (decide (v33 < v32))
  (obind (nthI v31 v33) fun z1 =>
   cond (!(Option.isSome (mget (.pr (.i .i64) (.i .i64)) v4294967298 (z1.1, z1.2))))
    (some (.inr (false, (r, (r2, (r3, (v15, v4294967298)))))))
    (obind (appI (8 : Nat) v7 [(Option.getD (mget (.pr (.i .i64) (.i .i64)) v4294967298 (z1.1, z1.2)) (0 : Int))]) fun z2 =>
     (tl_u16_2 N m (v16, (v17, (v31, (v32, ((IntKind.wrap .i64 (v33 + (1 : Int))), (r, (r2, (r3, (x, (x2, (x3, (z2, (v15, (v4294967298, (v903, (v904, v905)))))))))))))))))))
  (some (.inl (v16, (v17, (r, (r2, (r3, (x, (x2, (x3, (v7, (v15, (v4294967298, (v903, (v904, v905)))))))))))))))
theorem q_l_u16_2 (N : Nat) : ∀ (m : Nat) (v : Int × Int × (List (Int × Int)) × Int × Int × (List Int) × (List Int) × (List (Int × (Int × (List (Int × Int))))) × Int × Int × (List (Int × Int)) × (List Int) × (List (Int × Int)) × (List ((Int × Int) × Int)) × (List Int) × (List Int) × (List (List Int))), l_u16_2 N m v = tl_u16_2 N m v
 | 0, _ => by kernel_rfl
 | m + 1, (v16, v17, v31, v32, v33, r, r2, r3, x, x2, x3, v7, v15, v4294967298, v903, v904, v905) => by
   rw [l_u16_2_s, tl_u16_2, (fcP fcI (fcP fcI (fcP (fcL (fcP fcI fcI)) (fcP fcI (fcP fcI (fcP (fcL fcI) (fcP (fcL fcI) (fcP (fcL (fcP fcI (fcP fcI (fcL (fcP fcI fcI))))) (fcP fcI (fcP fcI (fcP (fcL (fcP fcI fcI)) (fcP (fcL fcI) (fcP (fcL (fcP fcI fcI)) (fcP (fcL (fcP (fcP fcI fcI) fcI)) (fcP (fcL fcI) (fcP (fcL fcI) (fcL (fcL fcI)))))))))))))))))).ok]
   all_goals first | rfl | (simp only [bitI_eq, dem_D, q_l_u16_2 N m]; done) | (simp only [bitI_eq, dem_D, q_l_u16_2 N m]; rfl)
def tl_u16_1 (N : Nat) : Nat → Int × Int × (List Int) × (List Int) × (List (Int × (Int × (List (Int × Int))))) × (List (Int × Int)) × (List ((Int × Int) × Int)) × (List Int) × (List Int) × (List (List Int)) → Option (((List Int) × (List Int) × (List (Int × (Int × (List (Int × Int))))) × (List (Int × Int)) × (List ((Int × Int) × Int)) × (List Int) × (List Int) × (List (List Int))) ⊕ (Bool × (List Int) × (List Int) × (List (Int × (Int × (List (Int × Int))))) × (List (Int × Int)) × (List ((Int × Int) × Int))))
 | 0, _ => none
 | m + 1, v => (fcP fcI (fcP fcI (fcP (fcL fcI) (fcP (fcL fcI) (fcP (fcL (fcP fcI (fcP fcI (fcL (fcP fcI fcI))))) (fcP (fcL (fcP fcI fcI)) (fcP (fcL (fcP (fcP fcI fcI) fcI)) (fcP (fcL fcI) (fcP (fcL fcI) (fcL (fcL fcI))))))))))).f v fun (v16, v17, r, r2, r3, v15, v4294967298, v901, v902, v903) => cond (decide (v17 < v16))
  (obind (nthI v15 v17) fun z1 =>
   obind (nthI v15 v17) fun z2 =>
   obind (nthI r3 z2.1) fun z3 =>
   obind (tl_u16_2 N N (v16, (v17, (z3.2.2, ((((List.length z3.2.2) : Nat) : Int), ((0 : Int), (r, (r2, (r3, (z3.1, (z3.2.1, (z3.2.2, ([], (v15, (v4294967298, (v901, (v902, v903))))))))))))))))) fun z4 =>
   (match z4 with
   | .inl zy5 => obind (appI (8 : Nat) zy5.2.2.2.2.2.2.2.2.2.2.2.1 [zy5.2.2.2.2.2.1]) fun z6 =>
     obind (appI (8 : Nat) zy5.2.2.2.2.2.2.2.2.2.2.2.2.1 [zy5.2.2.2.2.2.2.1]) fun z7 =>
     obind (appI (24 : Nat) zy5.2.2.2.2.2.2.2.2.2.2.2.2.2 [zy5.2.2.2.2.2.2.2.2.1]) fun z8 =>
     (tl_u16_1 N m (zy5.1, ((IntKind.wrap .i64 (zy5.2.1 + (1 : Int))), (zy5.2.2.1, (zy5.2.2.2.1, (zy5.2.2.2.2.1, (zy5.2.2.2.2.2.2.2.2.2.1, (zy5.2.2.2.2.2.2.2.2.2.2.1, (z6, (z7, z8))))))))))
   | .inr zy9 => some (.inr (zy9.1, (zy9.2.1, (zy9.2.2.1, (zy9.2.2.2.1, (zy9.2.2.2.2.1, zy9.2.2.2.2.2))))))))
  (some (.inl (r, (r2, (r3, (v15, (v4294967298, (v901, (v902, v903)))))))))
theorem q_l_u16_1 (N : Nat) : ∀ (m : Nat) (v : Int × Int × (List Int) × (List Int) × (List (Int × (Int × (List (Int × Int))))) × (List (Int × Int)) × (List ((Int × Int) × Int)) × (List Int) × (List Int) × (List (List Int))), l_u16_1 N m v = tl_u16_1 N m v
 | 0, _ => by kernel_rfl
 | m + 1, (v16, v17, r, r2, r3, v15, v4294967298, v901, v902, v903) => by
   rw [l_u16_1_s, tl_u16_1, (fcP fcI (fcP fcI (fcP (fcL fcI) (fcP (fcL fcI) (fcP (fcL (fcP fcI (fcP fcI (fcL (fcP fcI fcI))))) (fcP (fcL (fcP fcI fcI)) (fcP (fcL (fcP (fcP fcI fcI) fcI)) (fcP (fcL fcI) (fcP (fcL fcI) (fcL (fcL fcI))))))))))).ok]
   all_goals first | rfl | (simp only [q_l_u16_2, bitI_eq, dem_D, q_l_u16_1 N m]; done) | (simp only [q_l_u16_2, bitI_eq, dem_D, q_l_u16_1 N m]; rfl)
def t_u16 : Nat → (List Int) × (List Int) × (List (Int × (Int × (List (Int × Int))))) × (List (Int × Int)) × (List ((Int × Int) × Int)) → Option (Bool × (List Int) × (List Int) × (List (List Int)) × (List (Int × Int)) × (List ((Int × Int) × Int)) × (List Int) × (List Int) × (List (Int × (Int × (List (Int × Int))))))
 | 0, _ => none
 | N + 1, v => (fcP (fcL fcI) (fcP (fcL fcI) (fcP (fcL (fcP fcI (fcP fcI (fcL (fcP fcI fcI))))) (fcP (fcL (fcP fcI fcI)) (fcL (fcP (fcP fcI fcI) fcI)))))).f v fun (r, r2, r3, h, h2) => obind (tl_u16_1 N N ((((List.length h) : Nat) : Int), ((0 : Int), (r, (r2, (r3, (h, (h2, ([], ([], [])))))))))) fun z1 =>
 (match z1 with
 | .inl zy2 => obind (t_u55 N (zy2.2.2.2.2.2.1, (zy2.2.2.2.2.2.2.1, zy2.2.2.2.2.2.2.2))) fun z3 =>
   cond (!z3)
    (some (false, ([], ([], ([], (zy2.2.2.2.1, (zy2.2.2.2.2.1, (zy2.1, (zy2.2.1, zy2.2.2.1)))))))))
    (some (true, (zy2.2.2.2.2.2.1, (zy2.2.2.2.2.2.2.1, (zy2.2.2.2.2.2.2.2, (zy2.2.2.2.1, (zy2.2.2.2.2.1, (zy2.1, (zy2.2.1, zy2.2.2.1)))))))))
 | .inr zy4 => some (zy4.1, ([], ([], ([], (zy4.2.2.2.2.1, (zy4.2.2.2.2.2, (zy4.2.1, (zy4.2.2.1, zy4.2.2.2.1)))))))))
theorem q_m_u16 : ∀ (N : Nat) (v : (List Int) × (List Int) × (List (Int × (Int × (List (Int × Int))))) × (List (Int × Int)) × (List ((Int × Int) × Int))), m_u16 N v = t_u16 N v
 | 0, _ => by kernel_rfl
 | N + 1, (r, r2, r3, h, h2) => by
   rw [m_u16_eq, t_u16, (fcP (fcL fcI) (fcP (fcL fcI) (fcP (fcL (fcP fcI (fcP fcI (fcL (fcP fcI fcI))))) (fcP (fcL (fcP fcI fcI)) (fcL (fcP (fcP fcI fcI) fcI)))))).ok]
   all_goals first | rfl | (simp only [q_l_u16_1, q_m_u55, bitI_eq, dem_D]; done) | (simp only [q_l_u16_1, q_m_u55, bitI_eq, dem_D]; rfl)
def t_u65 : Nat → (List Int) × (List Int) × (List (Int × (Int × (List (Int × Int))))) × Int × Int → Option (Int × (List Int) × (List Int) × (List (List Int)) × (List (Int × Int)))
 | 0, _ => none
 | N + 1, v => (fcP (fcL fcI) (fcP (fcL fcI) (fcP (fcL (fcP fcI (fcP fcI (fcL (fcP fcI fcI))))) (fcP fcI fcI)))).f v fun (s, s2, s3, h, h2) => obind (t_u50 N (s, (s2, s3))) fun z1 =>
 cond (!z1)
  (some ((1 : Int), ([], ([], ([], [])))))
  (obind (t_u73 N (s, (s2, (h, h2)))) fun z2 =>
   cond (!z2)
    (some ((3 : Int), ([], ([], ([], [])))))
    (obind (t_u15 N (h, (h2, (s, (s2, (s3, [])))))) fun z3 =>
     obind (t_u16 N (z3.2.1, (z3.2.2.1, (z3.2.2.2.1, (z3.2.2.2.2.2, z3.2.2.2.2.1))))) fun z4 =>
     cond (!(decide (z3.1 = (0 : Int))))
      (some ((8 : Int), ([], ([], ([], [])))))
      (cond (!z4.1)
        (some ((8 : Int), ([], ([], ([], [])))))
        (some ((0 : Int), (z4.2.1, (z4.2.2.1, (z4.2.2.2.1, z4.2.2.2.2.1))))))))
theorem q_m_u65 : ∀ (N : Nat) (v : (List Int) × (List Int) × (List (Int × (Int × (List (Int × Int))))) × Int × Int), m_u65 N v = t_u65 N v
 | 0, _ => by kernel_rfl
 | N + 1, (s, s2, s3, h, h2) => by
   rw [m_u65_eq, t_u65, (fcP (fcL fcI) (fcP (fcL fcI) (fcP (fcL (fcP fcI (fcP fcI (fcL (fcP fcI fcI))))) (fcP fcI fcI)))).ok]
   all_goals first | rfl | (simp only [q_m_u15, q_m_u16, q_m_u73, q_m_u50, bitI_eq, dem_D]; done) | (simp only [q_m_u15, q_m_u16, q_m_u73, q_m_u50, bitI_eq, dem_D]; rfl)
def t_u26 : Nat → Int × Int × Int → Option (Bool × Int)
 | 0, _ => none
 | N + 1, v => (fcP fcI (fcP fcI fcI)).f v fun (h, h2, v4294967296) => some ((decide (h = v4294967296)), v4294967296)
theorem q_m_u26 : ∀ (N : Nat) (v : Int × Int × Int), m_u26 N v = t_u26 N v
 | 0, _ => by kernel_rfl
 | N + 1, (h, h2, v4294967296) => by
   rw [m_u26_eq, t_u26, (fcP fcI (fcP fcI fcI)).ok]
   all_goals first | rfl | (simp only [bitI_eq, dem_D]; done) | (simp only [bitI_eq, dem_D]; rfl)
def tl_u5_1 (N : Nat) : Nat → (List (Int × Int)) × Int × Int × Int → Option ((Int) ⊕ (Int × Int))
 | 0, _ => none
 | m + 1, v => (fcP (fcL (fcP fcI fcI)) (fcP fcI (fcP fcI fcI))).f v fun (s, v7, v8, f) => cond (decide (v8 < v7))
  (obind (nthI s v8) fun z1 =>
   obind (t_u26 N (z1.1, (z1.2, f))) fun z2 =>
   cond z2.1
    (some (.inr (v8, z2.2)))
    ((tl_u5_1 N m (s, (v7, ((IntKind.wrap .i64 (v8 + (1 : Int))), z2.2))))))
  (some (.inl f))
theorem q_l_u5_1 (N : Nat) : ∀ (m : Nat) (v : (List (Int × Int)) × Int × Int × Int), l_u5_1 N m v = tl_u5_1 N m v
 | 0, _ => by kernel_rfl
 | m + 1, (s, v7, v8, f) => by
   rw [l_u5_1_s, tl_u5_1, (fcP (fcL (fcP fcI fcI)) (fcP fcI (fcP fcI fcI))).ok]
   all_goals first | rfl | (simp only [q_m_u26, bitI_eq, dem_D, q_l_u5_1 N m]; done) | (simp only [q_m_u26, bitI_eq, dem_D, q_l_u5_1 N m]; rfl)
def t_u5 : Nat → (List (Int × Int)) × Int → Option (Int × Int)
 | 0, _ => none
 | N + 1, v => (fcP (fcL (fcP fcI fcI)) fcI).f v fun (s, f) => obind (tl_u5_1 N N (s, ((((List.length s) : Nat) : Int), ((0 : Int), f)))) fun z1 =>
 (match z1 with
 | .inl zy2 => some ((-(1 : Int)), zy2)
 | .inr zy3 => some (zy3.1, zy3.2))
theorem q_m_u5 : ∀ (N : Nat) (v : (List (Int × Int)) × Int), m_u5 N v = t_u5 N v
 | 0, _ => by kernel_rfl
 | N + 1, (s, f) => by
   rw [m_u5_eq, t_u5, (fcP (fcL (fcP fcI fcI)) fcI).ok]
   all_goals first | rfl | (simp only [q_l_u5_1, bitI_eq, dem_D]; done) | (simp only [q_l_u5_1, bitI_eq, dem_D]; rfl)
def t_u1 : Nat → (List (Int × Int)) × Int → Option (Bool × Int)
 | 0, _ => none
 | N + 1, v => (fcP (fcL (fcP fcI fcI)) fcI).f v fun (s, f) => obind (t_u5 N (s, f)) fun z1 =>
 some ((decide ((0 : Int) ≤ z1.1)), z1.2)
theorem q_m_u1 : ∀ (N : Nat) (v : (List (Int × Int)) × Int), m_u1 N v = t_u1 N v
 | 0, _ => by kernel_rfl
 | N + 1, (s, f) => by
   rw [m_u1_eq, t_u1, (fcP (fcL (fcP fcI fcI)) fcI).ok]
   all_goals first | rfl | (simp only [q_m_u5, bitI_eq, dem_D]; done) | (simp only [q_m_u5, bitI_eq, dem_D]; rfl)
def tl_u13_1 (N : Nat) : Nat → (List (Int × Int)) × Int × Int × Int × Int → Option ((Unit) ⊕ (Int))
 | 0, _ => none
 | m + 1, v => (fcP (fcL (fcP fcI fcI)) (fcP fcI (fcP fcI (fcP fcI fcI)))).f v fun (s, v7, v8, v, v2) => cond (decide (v8 < v7))
  (obind (nthI s v8) fun z1 =>
   cond ((decide (v = z1.1)) && (decide (v2 = z1.2)))
    (some (.inr v8))
    ((tl_u13_1 N m (s, (v7, ((IntKind.wrap .i64 (v8 + (1 : Int))), (v, v2)))))))
  (some (.inl ()))
theorem q_l_u13_1 (N : Nat) : ∀ (m : Nat) (v : (List (Int × Int)) × Int × Int × Int × Int), l_u13_1 N m v = tl_u13_1 N m v
 | 0, _ => by kernel_rfl
 | m + 1, (s, v7, v8, v, v2) => by
   rw [l_u13_1_s, tl_u13_1, (fcP (fcL (fcP fcI fcI)) (fcP fcI (fcP fcI (fcP fcI fcI)))).ok]
   all_goals first | rfl | (simp only [bitI_eq, dem_D, q_l_u13_1 N m]; done) | (simp only [bitI_eq, dem_D, q_l_u13_1 N m]; rfl)
def t_u13 : Nat → (List (Int × Int)) × Int × Int → Option (Int)
 | 0, _ => none
 | N + 1, v => (fcP (fcL (fcP fcI fcI)) (fcP fcI fcI)).f v fun (s, v, v2) => obind (tl_u13_1 N N (s, ((((List.length s) : Nat) : Int), ((0 : Int), (v, v2))))) fun z1 =>
 (match z1 with
 | .inl zy2 => some (-(1 : Int))
 | .inr zy3 => some zy3)
theorem q_m_u13 : ∀ (N : Nat) (v : (List (Int × Int)) × Int × Int), m_u13 N v = t_u13 N v
 | 0, _ => by kernel_rfl
 | N + 1, (s, v, v2) => by
   rw [m_u13_eq, t_u13, (fcP (fcL (fcP fcI fcI)) (fcP fcI fcI)).ok]
   all_goals first | rfl | (simp only [q_l_u13_1, bitI_eq, dem_D]; done) | (simp only [q_l_u13_1, bitI_eq, dem_D]; rfl)
def t_u11 : Nat → (List (Int × Int)) × Int × Int → Option (Bool)
 | 0, _ => none
 | N + 1, v => (fcP (fcL (fcP fcI fcI)) (fcP fcI fcI)).f v fun (s, v, v2) => obind (t_u13 N (s, (v, v2))) fun z1 =>
 some (decide ((0 : Int) ≤ z1))
theorem q_m_u11 : ∀ (N : Nat) (v : (List (Int × Int)) × Int × Int), m_u11 N v = t_u11 N v
 | 0, _ => by kernel_rfl
 | N + 1, (s, v, v2) => by
   rw [m_u11_eq, t_u11, (fcP (fcL (fcP fcI fcI)) (fcP fcI fcI)).ok]
   all_goals first | rfl | (simp only [q_m_u13, bitI_eq, dem_D]; done) | (simp only [q_m_u13, bitI_eq, dem_D]; rfl)
def t_u27 : Nat → Int × Int × (List (Int × Int)) → Option (Bool × (List (Int × Int)))
 | 0, _ => none
 | N + 1, v => (fcP fcI (fcP fcI (fcL (fcP fcI fcI)))).f v fun (h, h2, v4294967296) => obind (t_u11 N (v4294967296, (h, h2))) fun z1 =>
 some (z1, v4294967296)
theorem q_m_u27 : ∀ (N : Nat) (v : Int × Int × (List (Int × Int))), m_u27 N v = t_u27 N v
 | 0, _ => by kernel_rfl
 | N + 1, (h, h2, v4294967296) => by
   rw [m_u27_eq, t_u27, (fcP fcI (fcP fcI (fcL (fcP fcI fcI)))).ok]
   all_goals first | rfl | (simp only [q_m_u11, bitI_eq, dem_D]; done) | (simp only [q_m_u11, bitI_eq, dem_D]; rfl)
def tl_u6_1 (N : Nat) : Nat → (List (Int × Int)) × Int × Int × (List (Int × Int)) → Option (((List (Int × Int))) ⊕ (Int × (List (Int × Int))))
 | 0, _ => none
 | m + 1, v => (fcP (fcL (fcP fcI fcI)) (fcP fcI (fcP fcI (fcL (fcP fcI fcI))))).f v fun (s, v7, v8, f) => cond (decide (v8 < v7))
  (obind (nthI s v8) fun z1 =>
   obind (t_u27 N (z1.1, (z1.2, f))) fun z2 =>
   cond z2.1
    (some (.inr (v8, z2.2)))
    ((tl_u6_1 N m (s, (v7, ((IntKind.wrap .i64 (v8 + (1 : Int))), z2.2))))))
  (some (.inl f))
theorem q_l_u6_1 (N : Nat) : ∀ (m : Nat) (v : (List (Int × Int)) × Int × Int × (List (Int × Int))), l_u6_1 N m v = tl_u6_1 N m v
 | 0, _ => by kernel_rfl
 | m + 1, (s, v7, v8, f) => by
   rw [l_u6_1_s, tl_u6_1, (fcP (fcL (fcP fcI fcI)) (fcP fcI (fcP fcI (fcL (fcP fcI fcI))))).ok]
   all_goals first | rfl | (simp only [q_m_u27, bitI_eq, dem_D, q_l_u6_1 N m]; done) | (simp only [q_m_u27, bitI_eq, dem_D, q_l_u6_1 N m]; rfl)
def t_u6 : Nat → (List (Int × Int)) × (List (Int × Int)) → Option (Int × (List (Int × Int)))
 | 0, _ => none
 | N + 1, v => (fcP (fcL (fcP fcI fcI)) (fcL (fcP fcI fcI))).f v fun (s, f) => obind (tl_u6_1 N N (s, ((((List.length s) : Nat) : Int), ((0 : Int), f)))) fun z1 =>
 (match z1 with
 | .inl zy2 => some ((-(1 : Int)), zy2)
 | .inr zy3 => some (zy3.1, zy3.2))
theorem q_m_u6 : ∀ (N : Nat) (v : (List (Int × Int)) × (List (Int × Int))), m_u6 N v = t_u6 N v
 | 0, _ => by kernel_rfl
 | N + 1, (s, f) => by
   rw [m_u6_eq, t_u6, (fcP (fcL (fcP fcI fcI)) (fcL (fcP fcI fcI))).ok]
   all_goals first | rfl | (simp only [q_l_u6_1, bitI_eq, dem_D]; done) | (simp only [q_l_u6_1, bitI_eq, dem_D]; rfl)
def t_u2 : Nat → (List (Int × Int)) × (List (Int × Int)) → Option (Bool × (List (Int × Int)))
 | 0, _ => none
 | N + 1, v => (fcP (fcL (fcP fcI fcI)) (fcL (fcP fcI fcI))).f v fun (s, f) => obind (t_u6 N (s, f)) fun z1 =>
 some ((decide ((0 : Int) ≤ z1.1)), z1.2)
theorem q_m_u2 : ∀ (N : Nat) (v : (List (Int × Int)) × (List (Int × Int))), m_u2 N v = t_u2 N v
 | 0, _ => by kernel_rfl
 | N + 1, (s, f) => by
   rw [m_u2_eq, t_u2, (fcP (fcL (fcP fcI fcI)) (fcL (fcP fcI fcI))).ok]
   all_goals first | rfl | (simp only [q_m_u6, bitI_eq, dem_D]; done) | (simp only [q_m_u6, bitI_eq, dem_D]; rfl)
def tl_u52_1 (N : Nat) : Nat → (List (Int × (Int × (List (Int × Int))))) × Int × Int × (List (Int × Int)) → Option ((Unit) ⊕ (Bool))
 | 0, _ => none
 | m + 1, v => (fcP (fcL (fcP fcI (fcP fcI (fcL (fcP fcI fcI))))) (fcP fcI (fcP fcI (fcL (fcP fcI fcI))))).f v fun (v9, v10, v11, l) => cond (decide (v11 < v10))
  (obind (nthI v9 v11) fun z1 =>
   obind (t_u1 N (l, v11)) fun z2 =>
   cond (!z2.1)
    (obind (t_u2 N (z1.2.2, l)) fun z3 =>
     cond z3.1
      (some (.inr true))
      ((tl_u52_1 N m (v9, (v10, ((IntKind.wrap .i64 (v11 + (1 : Int))), z3.2))))))
    ((tl_u52_1 N m (v9, (v10, ((IntKind.wrap .i64 (v11 + (1 : Int))), l))))))
  (some (.inl ()))
theorem q_l_u52_1 (N : Nat) : ∀ (m : Nat) (v : (List (Int × (Int × (List (Int × Int))))) × Int × Int × (List (Int × Int))), l_u52_1 N m v = tl_u52_1 N m v
 | 0, _ => by kernel_rfl
 | m + 1, (v9, v10, v11, l) => by
   rw [l_u52_1_s, tl_u52_1, (fcP (fcL (fcP fcI (fcP fcI (fcL (fcP fcI fcI))))) (fcP fcI (fcP fcI (fcL (fcP fcI fcI))))).ok]
   all_goals first | rfl | (simp only [q_m_u1, q_m_u2, bitI_eq, dem_D, q_l_u52_1 N m]; done) | (simp only [q_m_u1, q_m_u2, bitI_eq, dem_D, q_l_u52_1 N m]; rfl)
def t_u52 : Nat → (List Int) × (List Int) × (List (Int × (Int × (List (Int × Int))))) × (List (Int × Int)) → Option (Bool)
 | 0, _ => none
 | N + 1, v => (fcP (fcL fcI) (fcP (fcL fcI) (fcP (fcL (fcP fcI (fcP fcI (fcL (fcP fcI fcI))))) (fcL (fcP fcI fcI))))).f v fun (s, s2, s3, l) => obind (tl_u52_1 N N (s3, ((((List.length s3) : Nat) : Int), ((0 : Int), l)))) fun z1 =>
 (match z1 with
 | .inl zy2 => some false
 | .inr zy3 => some zy3)
theorem q_m_u52 : ∀ (N : Nat) (v : (List Int) × (List Int) × (List (Int × (Int × (List (Int × Int))))) × (List (Int × Int))), m_u52 N v = t_u52 N v
 | 0, _ => by kernel_rfl
 | N + 1, (s, s2, s3, l) => by
   rw [m_u52_eq, t_u52, (fcP (fcL fcI) (fcP (fcL fcI) (fcP (fcL (fcP fcI (fcP fcI (fcL (fcP fcI fcI))))) (fcL (fcP fcI fcI))))).ok]
   all_goals first | rfl | (simp only [q_l_u52_1, bitI_eq, dem_D]; done) | (simp only [q_l_u52_1, bitI_eq, dem_D]; rfl)
def t_u10 : Nat → (List (Int × Int)) → Option ((List (Int × Int)))
 | 0, _ => none
 | N + 1, v => (fcL (fcP fcI fcI)).f v fun (s) => some s
theorem q_m_u10 : ∀ (N : Nat) (v : (List (Int × Int))), m_u10 N v = t_u10 N v
 | 0, _ => by kernel_rfl
 | N + 1, (s) => by
   rw [m_u10_eq, t_u10, (fcL (fcP fcI fcI)).ok]
   all_goals first | rfl | (simp only [bitI_eq, dem_D]; done) | (simp only [bitI_eq, dem_D]; rfl)
def t_u72 : Nat → (List Int) × (List Int) × Int × Int → Option (Int × (List Int) × (List Int))
 | 0, _ => none
 | N + 1, v => (fcP (fcL fcI) (fcP (fcL fcI) (fcP fcI fcI))).f v fun (p, p2, h, h2) => obind (t_u56 N (p, p2)) fun z1 =>
 cond (!z1)
  (some ((1 : Int), (p, p2)))
  (obind (t_u73 N (p, (p2, (h, h2)))) fun z2 =>
   cond (!z2)
    (some ((3 : Int), (p, p2)))
    (obind (t_u22 N p2) fun z3 =>
     obind (appI (8 : Nat) z3 [h]) fun z4 =>
     some ((0 : Int), (p, z4))))
theorem q_m_u72 : ∀ (N : Nat) (v : (List Int) × (List Int) × Int × Int), m_u72 N v = t_u72 N v
 | 0, _ => by kernel_rfl
 | N + 1, (p, p2, h, h2) => by
   rw [m_u72_eq, t_u72, (fcP (fcL fcI) (fcP (fcL fcI) (fcP fcI fcI))).ok]
   all_goals first | rfl | (simp only [q_m_u73, q_m_u56, q_m_u22, bitI_eq, dem_D]; done) | (simp only [q_m_u73, q_m_u56, q_m_u22, bitI_eq, dem_D]; rfl)
def tl_u63_1 (N : Nat) : List (Int × (Int × Int)) → (List Int) × (List Int) × (List (Int × (Int × (List (Int × Int))))) → Option ((List Int) × (List Int) × (List (Int × (Int × (List (Int × Int))))))
 | [], v => (fcP (fcL fcI) (fcP (fcL fcI) (fcL (fcP fcI (fcP fcI (fcL (fcP fcI fcI))))))).f v fun (out, out2, v902) => some (out, (out2, v902))
 | (ri, (rc, rg)) :: rl, v => (fcP (fcL fcI) (fcP (fcL fcI) (fcL (fcP fcI (fcP fcI (fcL (fcP fcI fcI))))))).f v fun (out, out2, v902) => obind (t_u72 N (out, (out2, (rc, rg)))) fun z1 =>
 obind (nthI v902 rc) fun z2 =>
 obind (nthI v902 rc) fun z3 =>
 (tl_u63_1 N rl (z1.2.1, (z1.2.2, (List.set v902 (Int.toNat rc) ((0 : Int), ((0 : Int), []))))))
theorem q_l_u63_1 (N : Nat) : ∀ (l : List (Int × (Int × Int))) (v : (List Int) × (List Int) × (List (Int × (Int × (List (Int × Int)))))), l_u63_1 N l v = tl_u63_1 N l v
 | [], (out, out2, v902) => by
   rw [l_u63_1_z, tl_u63_1, (fcP (fcL fcI) (fcP (fcL fcI) (fcL (fcP fcI (fcP fcI (fcL (fcP fcI fcI))))))).ok]
 | (ri, (rc, rg)) :: rl, (out, out2, v902) => by
   rw [l_u63_1_s, tl_u63_1, (fcP (fcL fcI) (fcP (fcL fcI) (fcL (fcP fcI (fcP fcI (fcL (fcP fcI fcI))))))).ok]
   all_goals first | rfl | (simp only [q_m_u72, bitI_eq, dem_D, q_l_u63_1 N rl]; done) | (simp only [q_m_u72, bitI_eq, dem_D, q_l_u63_1 N rl]; rfl)
def t_u63 : Nat → (List Int) × (List Int) × (List (Int × (Int × (List (Int × Int))))) × Int × Int → Option (Int × (List Int) × (List Int) × (List (Int × (Int × (List (Int × Int))))))
 | 0, _ => none
 | N + 1, v => (fcP (fcL fcI) (fcP (fcL fcI) (fcP (fcL (fcP fcI (fcP fcI (fcL (fcP fcI fcI))))) (fcP fcI fcI)))).f v fun (s, s2, s3, h, h2) => obind (t_u65 N (s, (s2, (s3, (h, h2))))) fun z1 =>
 cond (!(decide (z1.1 = (0 : Int))))
  (some (z1.1, (s, (s2, s3))))
  (obind (t_u52 N (s, (s2, (s3, z1.2.2.2.2)))) fun z2 =>
   cond z2
    (some ((5 : Int), (s, (s2, s3))))
    (obind (t_u14 N s3) fun z3 =>
     obind (t_u10 N z1.2.2.2.2) fun z4 =>
     obind (tl_u63_1 N (bwI z4) (s, (s2, z3))) fun z5 =>
     some ((0 : Int), (z5.1, (z5.2.1, z5.2.2)))))
theorem q_m_u63 : ∀ (N : Nat) (v : (List Int) × (List Int) × (List (Int × (Int × (List (Int × Int))))) × Int × Int), m_u63 N v = t_u63 N v
 | 0, _ => by kernel_rfl
 | N + 1, (s, s2, s3, h, h2) => by
   rw [m_u63_eq, t_u63, (fcP (fcL fcI) (fcP (fcL fcI) (fcP (fcL (fcP fcI (fcP fcI (fcL (fcP fcI fcI))))) (fcP fcI fcI)))).ok]
   all_goals first | rfl | (simp only [q_l_u63_1, q_m_u10, q_m_u14, q_m_u65, q_m_u52, bitI_eq, dem_D]; done) | (simp only [q_l_u63_1, q_m_u10, q_m_u14, q_m_u65, q_m_u52, bitI_eq, dem_D]; rfl)
def tl_u57_1 (N : Nat) : Nat → (List Int) × (List Int) × Int → Option ((Unit) ⊕ (Bool))
 | 0, _ => none
 | m + 1, v => (fcP (fcL fcI) (fcP (fcL fcI) fcI)).f v fun (a, b, i) => cond (decide (i < (((List.length a) : Nat) : Int)))
  (obind (nthI a i) fun z1 =>
   obind (nthI b i) fun z2 =>
   cond (!(decide (z1 = z2)))
    (some (.inr false))
    ((tl_u57_1 N m (a, (b, (IntKind.wrap .i64 (i + (1 : Int))))))))
  (some (.inl ()))
theorem q_l_u57_1 (N : Nat) : ∀ (m : Nat) (v : (List Int) × (List Int) × Int), l_u57_1 N m v = tl_u57_1 N m v
 | 0, _ => by kernel_rfl
 | m + 1, (a, b, i) => by
   rw [l_u57_1_s, tl_u57_1, (fcP (fcL fcI) (fcP (fcL fcI) fcI)).ok]
   all_goals first | rfl | (simp only [bitI_eq, dem_D, q_l_u57_1 N m]; done) | (simp only [bitI_eq, dem_D, q_l_u57_1 N m]; rfl)
def t_u57 : Nat → (List Int) × (List Int) → Option (Bool)
 | 0, _ => none
 | N + 1, v => (fcP (fcL fcI) (fcL fcI)).f v fun (a, b) => cond (!(decide ((((List.length a) : Nat) : Int) = (((List.length b) : Nat) : Int))))
  (some false)
  (obind (tl_u57_1 N N (a, (b, (0 : Int)))) fun z1 =>
   (match z1 with
   | .inl zy2 => some true
   | .inr zy3 => some zy3))
theorem q_m_u57 : ∀ (N : Nat) (v : (List Int) × (List Int)), m_u57 N v = t_u57 N v
 | 0, _ => by kernel_rfl
 | N + 1, (a, b) => by
   rw [m_u57_eq, t_u57, (fcP (fcL fcI) (fcL fcI)).ok]
   all_goals first | rfl | (simp only [q_l_u57_1, bitI_eq, dem_D]; done) | (simp only [q_l_u57_1, bitI_eq, dem_D]; rfl)
def tl_u42_1 (N : Nat) : Nat → (List (List Int)) × (List (List Int)) × Int → Option ((Unit) ⊕ (Bool))
 | 0, _ => none
 | m + 1, v => (fcP (fcL (fcL fcI)) (fcP (fcL (fcL fcI)) fcI)).f v fun (a, b, i) => cond (decide (i < (((List.length a) : Nat) : Int)))
  (obind (nthI a i) fun z1 =>
   obind (nthI b i) fun z2 =>
   obind (t_u57 N (z1, z2)) fun z3 =>
   cond (!z3)
    (some (.inr false))
    ((tl_u42_1 N m (a, (b, (IntKind.wrap .i64 (i + (1 : Int))))))))
  (some (.inl ()))
theorem q_l_u42_1 (N : Nat) : ∀ (m : Nat) (v : (List (List Int)) × (List (List Int)) × Int), l_u42_1 N m v = tl_u42_1 N m v
 | 0, _ => by kernel_rfl
 | m + 1, (a, b, i) => by
   rw [l_u42_1_s, tl_u42_1, (fcP (fcL (fcL fcI)) (fcP (fcL (fcL fcI)) fcI)).ok]
   all_goals first | rfl | (simp only [q_m_u57, bitI_eq, dem_D, q_l_u42_1 N m]; done) | (simp only [q_m_u57, bitI_eq, dem_D, q_l_u42_1 N m]; rfl)
def t_u42 : Nat → (List (List Int)) × (List (List Int)) → Option (Bool)
 | 0, _ => none
 | N + 1, v => (fcP (fcL (fcL fcI)) (fcL (fcL fcI))).f v fun (a, b) => cond (!(decide ((((List.length a) : Nat) : Int) = (((List.length b) : Nat) : Int))))
  (some false)
  (obind (tl_u42_1 N N (a, (b, (0 : Int)))) fun z1 =>
   (match z1 with
   | .inl zy2 => some true
   | .inr zy3 => some zy3))
theorem q_m_u42 : ∀ (N : Nat) (v : (List (List Int)) × (List (List Int))), m_u42 N v = t_u42 N v
 | 0, _ => by kernel_rfl
 | N + 1, (a, b) => by
   rw [m_u42_eq, t_u42, (fcP (fcL (fcL fcI)) (fcL (fcL fcI))).ok]
   all_goals first | rfl | (simp only [q_l_u42_1, bitI_eq, dem_D]; done) | (simp only [q_l_u42_1, bitI_eq, dem_D]; rfl)
def t_u59 : Nat → (List Int) × (List Int) × (List (List Int)) × (List Int) × (List Int) × (List (List Int)) → Option (Bool)
 | 0, _ => none
 | N + 1, v => (fcP (fcL fcI) (fcP (fcL fcI) (fcP (fcL (fcL fcI)) (fcP (fcL fcI) (fcP (fcL fcI) (fcL (fcL fcI))))))).f v fun (a, a2, a3, b, b2, b3) => obind (t_u57 N (a, b)) fun z1 =>
 cond z1
  (obind (t_u57 N (a2, b2)) fun z2 =>
   cond z2
    (obind (t_u42 N (a3, b3)) fun z3 =>
     some z3)
    (some false))
  (some false)
theorem q_m_u59 : ∀ (N : Nat) (v : (List Int) × (List Int) × (List (List Int)) × (List Int) × (List Int) × (List (List Int))), m_u59 N v = t_u59 N v
 | 0, _ => by kernel_rfl
 | N + 1, (a, a2, a3, b, b2, b3) => by
   rw [m_u59_eq, t_u59, (fcP (fcL fcI) (fcP (fcL fcI) (fcP (fcL (fcL fcI)) (fcP (fcL fcI) (fcP (fcL fcI) (fcL (fcL fcI))))))).ok]
   all_goals first | rfl | (simp only [q_m_u57, q_m_u42, bitI_eq, dem_D]; done) | (simp only [q_m_u57, q_m_u42, bitI_eq, dem_D]; rfl)
def tl_u31_1 (N : Nat) : Nat → (List (Int × Int)) × (List (Int × Int)) × Int → Option ((Unit) ⊕ (Bool))
 | 0, _ => none
 | m + 1, v => (fcP (fcL (fcP fcI fcI)) (fcP (fcL (fcP fcI fcI)) fcI)).f v fun (a, b, i) => cond (decide (i < (((List.length a) : Nat) : Int)))
  (obind (nthI a i) fun z1 =>
   obind (nthI b i) fun z2 =>
   cond (!((decide (z1.1 = z2.1)) && (decide (z1.2 = z2.2))))
    (some (.inr false))
    ((tl_u31_1 N m (a, (b, (IntKind.wrap .i64 (i + (1 : Int))))))))
  (some (.inl ()))
theorem q_l_u31_1 (N : Nat) : ∀ (m : Nat) (v : (List (Int × Int)) × (List (Int × Int)) × Int), l_u31_1 N m v = tl_u31_1 N m v
 | 0, _ => by kernel_rfl
 | m + 1, (a, b, i) => by
   rw [l_u31_1_s, tl_u31_1, (fcP (fcL (fcP fcI fcI)) (fcP (fcL (fcP fcI fcI)) fcI)).ok]
   all_goals first | rfl | (simp only [bitI_eq, dem_D, q_l_u31_1 N m]; done) | (simp only [bitI_eq, dem_D, q_l_u31_1 N m]; rfl)
def t_u31 : Nat → (List (Int × Int)) × (List (Int × Int)) → Option (Bool)
 | 0, _ => none
 | N + 1, v => (fcP (fcL (fcP fcI fcI)) (fcL (fcP fcI fcI))).f v fun (a, b) => cond (!(decide ((((List.length a) : Nat) : Int) = (((List.length b) : Nat) : Int))))
  (some false)
  (obind (tl_u31_1 N N (a, (b, (0 : Int)))) fun z1 =>
   (match z1 with
   | .inl zy2 => some true
   | .inr zy3 => some zy3))
theorem q_m_u31 : ∀ (N : Nat) (v : (List (Int × Int)) × (List (Int × Int))), m_u31 N v = t_u31 N v
 | 0, _ => by kernel_rfl
 | N + 1, (a, b) => by
   rw [m_u31_eq, t_u31, (fcP (fcL (fcP fcI fcI)) (fcL (fcP fcI fcI))).ok]
   all_goals first | rfl | (simp only [q_l_u31_1, bitI_eq, dem_D]; done) | (simp only [q_l_u31_1, bitI_eq, dem_D]; rfl)
def t_u37 : Nat → Unit → Option (Bool)
 | 0, _ => none
 | N + 1, v => fcU.f v fun _ => obind (t_u41 N ([(4 : Int), (7 : Int)], [(1 : Int), (2 : Int)])) fun z1 =>
 obind (t_u41 N ([(9 : Int)], [(3 : Int)])) fun z2 =>
 obind (t_u64 N (3 : Int)) fun z3 =>
 obind (t_u79 N (z3.2.1, (z3.2.2.1, (z3.2.2.2, (z1.2.1, (z1.2.2.1, z1.2.2.2)))))) fun z4 =>
 obind (t_u79 N (z4.2.1, (z4.2.2.1, (z4.2.2.2.1, (z2.2.1, (z2.2.2.1, z2.2.2.2)))))) fun z5 =>
 obind (t_u79 N (z5.2.1, (z5.2.2.1, (z5.2.2.2.1, (z2.2.1, (z2.2.2.1, z2.2.2.2)))))) fun z6 =>
 obind (t_u65 N (z5.2.1, (z5.2.2.1, (z5.2.2.2.1, ((1 : Int), (1 : Int)))))) fun z7 =>
 obind (t_u63 N (z5.2.1, (z5.2.2.1, (z5.2.2.2.1, (z4.2.2.2.2.1, z4.2.2.2.2.2))))) fun z8 =>
 obind (t_u65 N (z8.2.1, (z8.2.2.1, (z8.2.2.2, (z4.2.2.2.2.1, z4.2.2.2.2.2))))) fun z9 =>
 obind (t_u65 N (z8.2.1, (z8.2.2.1, (z8.2.2.2, (z5.2.2.2.2.1, z5.2.2.2.2.2))))) fun z10 =>
 cond (!(decide (z3.1 = (0 : Int))))
  (some false)
  (cond (!(decide (z4.1 = (0 : Int))))
    (some false)
    (cond (!(decide (z5.1 = (0 : Int))))
      (some false)
      (cond (!(decide (z6.1 = (2 : Int))))
        (some false)
        (cond (!(decide (z7.1 = (0 : Int))))
          (some false)
          (cond (!(decide (z8.1 = (0 : Int))))
            (some false)
            (cond (!(decide (z9.1 = (3 : Int))))
              (some false)
              (cond (!(decide (z10.1 = (0 : Int))))
                (some false)
                (cond (!(decide ((((List.length z7.2.2.2.2) : Nat) : Int) = (2 : Int))))
                  (some false)
                  (cond (!(decide ((((List.length z10.2.2.2.2) : Nat) : Int) = (1 : Int))))
                    (some false)
                    (cond (!(decide ((((List.length z5.2.2.2.1) : Nat) : Int) = (3 : Int))))
                      (some false)
                      (cond ((decide (z4.2.2.2.2.1 = (0 : Int))) && (decide (z4.2.2.2.2.2 = (1 : Int))))
                        (cond ((decide (z5.2.2.2.2.1 = (2 : Int))) && (decide (z5.2.2.2.2.2 = (1 : Int))))
                          (obind (t_u57 N (z7.2.1, [(7 : Int), (4 : Int)])) fun z11 =>
                           cond z11
                            (obind (t_u59 N (z10.2.1, (z10.2.2.1, (z10.2.2.2.1, (z2.2.1, (z2.2.2.1, z2.2.2.2)))))) fun z12 =>
                             cond z12
                              (obind (nthI z5.2.2.2.1 (1 : Int)) fun z13 =>
                               obind (t_u31 N (z13.2.2, [((0 : Int), (1 : Int)), ((1 : Int), (1 : Int))])) fun z14 =>
                               cond z14
                                (obind (t_u57 N (z8.2.2.1, [(1 : Int), (0 : Int)])) fun z15 =>
                                 cond z15
                                  (obind (t_u50 N (z8.2.1, (z8.2.2.1, z8.2.2.2))) fun z16 =>
                                   cond z16
                                    (obind (t_u50 N ([], ([], []))) fun z17 =>
                                     some (!z17))
                                    (some false))
                                  (some false))
                                (some false))
                              (some false))
                            (some false))
                          (some false))
                        (some false))))))))))))
theorem q_m_u37 : ∀ (N : Nat) (v : Unit), m_u37 N v = t_u37 N v
 | 0, _ => by kernel_rfl
 | N + 1, _ => by
   rw [m_u37_eq, t_u37, fcU.ok]
   all_goals first | rfl | (simp only [q_m_u57, q_m_u41, q_m_u59, q_m_u31, q_m_u63, q_m_u64, q_m_u79, q_m_u65, q_m_u50, bitI_eq, dem_D]; done) | (simp only [q_m_u57, q_m_u41, q_m_u59, q_m_u31, q_m_u63, q_m_u64, q_m_u79, q_m_u65, q_m_u50, bitI_eq, dem_D]; rfl)
end
end Go.Proofs.Ytdahghkmejnlgaa
end
noncomputable section
namespace Go.Proofs.Ytdahghkmejnlgaa
open Go Go.RowKit
set_option maxRecDepth 100000
theorem alive30_k (N : Nat) : t_u37 (N + 100) () = some true := by kernel_rfl
theorem alive30 {N : Nat} (h : Fu ≤ N) : m_u37 N () = some true := by
 obtain ⟨M, rfl⟩ : ∃ M, N = M + 100 := ⟨N - 100, by rw [Fu_eq] at h; omega⟩
 rw [q_m_u37]
 exact alive30_k M
end Go.Proofs.Ytdahghkmejnlgaa
end
noncomputable section
set_option linter.unusedVariables false
set_option linter.unusedSimpArgs false
namespace Go.Proofs.Ytdahghkmejnlgaa
open Go Go.RowKit
def takeN : Nat → List Int → List Int → Int × List Int × List Int × List Hd
 | 0, g, f => (0, g, f, [])
 | k + 1, g, f =>
   if (takeP g f).1 = 0 then
     if (takeN k (takeP g f).2.1 (takeP g f).2.2.1).1 = 0 then (0, (takeN k (takeP g f).2.1 (takeP g f).2.2.1).2.1, (takeN k (takeP g f).2.1 (takeP g f).2.2.1).2.2.1, (takeP g f).2.2.2 :: (takeN k (takeP g f).2.1 (takeP g f).2.2.1).2.2.2)
     else ((takeN k (takeP g f).2.1 (takeP g f).2.2.1).1, (takeN k (takeP g f).2.1 (takeP g f).2.2.1).2.1, (takeN k (takeP g f).2.1 (takeP g f).2.2.1).2.2.1, [])
   else ((takeP g f).1, (takeP g f).2.1, (takeP g f).2.2.1, [])
theorem takeN_s {k : Nat} {g f : List Int} (h1 : (takeP g f).1 = 0) (h2 : (takeN k (takeP g f).2.1 (takeP g f).2.2.1).1 = 0) : takeN (k + 1) g f = (0, (takeN k (takeP g f).2.1 (takeP g f).2.2.1).2.1, (takeN k (takeP g f).2.1 (takeP g f).2.2.1).2.2.1, (takeP g f).2.2.2 :: (takeN k (takeP g f).2.1 (takeP g f).2.2.1).2.2.2) := by
 rw [takeN, if_pos h1, if_pos h2]
theorem takeN_l {k : Nat} {g f : List Int} (h1 : (takeP g f).1 = 0) (h2 : ¬ (takeN k (takeP g f).2.1 (takeP g f).2.2.1).1 = 0) : takeN (k + 1) g f = ((takeN k (takeP g f).2.1 (takeP g f).2.2.1).1, (takeN k (takeP g f).2.1 (takeP g f).2.2.1).2.1, (takeN k (takeP g f).2.1 (takeP g f).2.2.1).2.2.1, []) := by
 rw [takeN, if_pos h1, if_neg h2]
theorem takeN_f {k : Nat} {g f : List Int} (h1 : ¬ (takeP g f).1 = 0) : takeN (k + 1) g f = ((takeP g f).1, (takeP g f).2.1, (takeP g f).2.2.1, []) := by
 rw [takeN, if_neg h1]
theorem taken_loop (N : Nat) (hN : Fu + 3 ≤ N) (n : Nat) (hn : n ≤ 1000) : ∀ (k i m : Nat) (g f : List Int) (l : List Hd), i + k = n → k < m → l.length ≤ i → g.length ≤ 9223372036854775807 → f.length ≤ 9223372036854775807 →
   l_u53_1 N m ((n : Int), (i : Int), g, f, l) = some (if (takeN k g f).1 = 0 then .inl ((takeN k g f).2.1, (takeN k g f).2.2.1, l ++ (takeN k g f).2.2.2) else .inr ((takeN k g f).1, (takeN k g f).2.1, (takeN k g f).2.2.1))
 | k, i, 0, g, f, l, h1, h2, _, _, _ => by omega
 | 0, i, m + 1, g, f, l, h1, h2, _, _, _ => by rw [l_u53_1_s, cd, if_neg (by omega)]; simp [takeN]
 | k + 1, i, m + 1, g, f, l, h1, h2, h3, hg, hf => by
   obtain ⟨l1, l2⟩ := takeP_len g f
   rw [l_u53_1_s, cd, if_pos (by omega), take_eq N hN g f hg hf, ob, cdn]
   by_cases h0 : (takeP g f).1 = 0
   · rw [if_pos h0, app_of (by omega) (by simp; omega), ob, w64n (by omega), taken_loop N hN n hn k (i + 1) m _ _ _ (by omega) (by omega) (by simp; omega) (by omega) (by omega)]
     by_cases h4 : (takeN k (takeP g f).2.1 (takeP g f).2.2.1).1 = 0
     · rw [if_pos h4, takeN_s h0 h4, if_pos rfl]; simp
     · rw [if_neg h4, takeN_l h0 h4, if_neg h4]
   · rw [if_neg h0, takeN_f h0, if_neg h0]
theorem taken_neq (N : Nat) (hN : Fu + 4 ≤ N) (n : Nat) (hn : n ≤ 1000) (g f : List Int) (hg : g.length ≤ 9223372036854775807) (hf : f.length ≤ 9223372036854775807) : ∃ r, m_u53 N (g, f, (n : Int)) = some r ∧ r.1 = (takeN n g f).1 ∧ (r.1 = 0 → r = takeN n g f) := by
 obtain ⟨N, rfl⟩ : ∃ n, N = n + 1 := ⟨N - 1, by omega⟩
 rw [m_u53_eq, show ((0 : Int) = ((0 : Nat) : Int)) from rfl, taken_loop N (by omega) n hn n 0 N g f [] (by omega) (by have := Fu_eq; omega) (by simp) hg hf, ob]
 by_cases h : (takeN n g f).1 = 0
 · rw [if_pos h]
   refine ⟨_, rfl, h.symm, fun _ => ?_⟩
   simp only [List.nil_append]
   exact Prod.ext h.symm rfl
 · rw [if_neg h]
   exact ⟨_, rfl, rfl, fun q => absurd q h⟩
structure TakeOk (k : Nat) (g f : List Int) (r : Int × List Int × List Int × List Hd) : Prop where
 len : r.2.2.2.length = k
 free : f = r.2.2.1 ++ (r.2.2.2.map (·.1)).reverse
 gens : r.2.1.length = g.length
 same : ∀ c : Nat, (c : Int) ∉ r.2.2.2.map (·.1) → r.2.1.getD c 0 = g.getD c 0
 cell : ∀ h ∈ r.2.2.2, 0 ≤ h.1 ∧ h.1 < g.length ∧ r.2.1.getD h.1.toNat 0 = h.2 ∧ h.2 = g.getD h.1.toNat 0 + 1
 right : rightB r.2.1 r.2.2.1 = true
theorem getD_set_ne {l : List Int} {c d : Nat} {x : Int} (h : c ≠ d) : (l.set c x).getD d 0 = l.getD d 0 := by
 simp [List.getD, List.getElem?_set_ne h]
theorem takeN_ok : ∀ (k : Nat) {g f : List Int}, rightB g f = true → (takeN k g f).1 = 0 → TakeOk k g f (takeN k g f)
 | 0, g, f, h, _ => ⟨rfl, by simp [takeN], rfl, fun _ _ => rfl, by simp [takeN], h⟩
 | k + 1, g, f, h, h0 => by
   by_cases h1 : (takeP g f).1 = 0
   · by_cases h2 : (takeN k (takeP g f).2.1 (takeP g f).2.2.1).1 = 0
     · rw [takeN_s h1 h2]
       have h3 : ∃ c, f.getLast? = some c ∧ g.getD c.toNat 0 ≠ 1073741824 := by
         unfold takeP at h1
         rw [if_pos h] at h1
         split at h1
         · cases h1
         · rename_i c hc
           split at h1
           · cases h1
           · exact ⟨c, hc, by assumption⟩
       obtain ⟨c, hc, hcg⟩ := h3
       obtain ⟨e, c0, c1, cn, hr⟩ := takeP_ok h hc hcg
       have ih := takeN_ok k (g := (takeP g f).2.1) (f := (takeP g f).2.2.1) (by rw [e]; exact hr) h2
       rw [e] at ih ⊢
       simp only at ih ⊢
       have hf := dropLast_last hc
       have hct : ((c.toNat : Nat) : Int) = c := by omega
       have hnl : c ∉ (takeN k (g.set c.toNat (g.getD c.toNat 0 + 1)) f.dropLast).2.2.2.map (·.1) := fun hm => cn (by rw [ih.free]; simp only [List.mem_append, List.mem_reverse]; exact .inr hm)
       refine ⟨by rw [List.length_cons, ih.len], ?_, by rw [ih.gens, List.length_set], fun d hd => ?_, fun x hx => ?_, ih.right⟩
       · simp only [List.map_cons, List.reverse_cons]
         rw [← List.append_assoc, ← ih.free]; exact hf
       · simp only [List.map_cons, List.mem_cons, not_or] at hd
         rw [ih.same d hd.2, getD_set_ne (by omega)]
       · rcases List.mem_cons.1 hx with rfl | hx
         · refine ⟨c0, c1, ?_, rfl⟩
           have := ih.same c.toNat (by rw [hct]; exact hnl)
           rw [this, getD_set (by omega)]
         · obtain ⟨a, b, p, q⟩ := ih.cell x hx
           rw [List.length_set] at b
           refine ⟨a, b, p, ?_⟩
           have : x.1 ≠ c := fun e => by
             have q : x.1 ∈ (takeN k (g.set c.toNat (g.getD c.toNat 0 + 1)) f.dropLast).2.2.2.map (·.1) := List.mem_map_of_mem hx
             rw [e] at q
             exact hnl q
           rw [q, getD_set_ne (by omega)]
     · rw [takeN_l h1 h2] at h0; exact absurd h0 h2
   · rw [takeN_f h1] at h0; exact absurd h0 h1
def toH (l : List Hd) (j : Int) : Hd := l.getD j.toNat (0, 0)
def nodeK (l : List Hd) (t t2 : List Int) (t3 : List (List Int)) (k : Nat) : Nd := (t.getD k 0, (t2.getD k 0, (t3.getD k []).map (toH l)))
def wrK (l : List Hd) (t t2 : List Int) (t3 : List (List Int)) (ns : List Nd) : Nat → List Nd
 | 0 => ns
 | k + 1 => (wrK l t t2 t3 ns k).set (l.getD k (0, 0)).1.toNat (nodeK l t t2 t3 k)
theorem wrK_len (l : List Hd) (t t2 : List Int) (t3 : List (List Int)) (ns : List Nd) : ∀ k, (wrK l t t2 t3 ns k).length = ns.length
 | 0 => rfl
 | k + 1 => by rw [wrK, List.length_set, wrK_len l t t2 t3 ns k]
theorem toH_of {l : List Hd} {j : Int} (h0 : 0 ≤ j) (h1 : j < l.length) : nthI l j = some (toH l j) := by
 obtain ⟨x, hx, hn⟩ := nth_ex h0 h1
 rw [hn]; simp [toH, List.getD, hx]
def RowsR (n : Nat) (t3 : List (List Int)) : Prop := t3.length = n ∧ ∀ row ∈ t3, row.length ≤ 8 ∧ ∀ j ∈ row, 0 ≤ j ∧ j < n
theorem link_range {hs : List Int} {i h : Nat} (hn : 0 < hs.length) : 0 ≤ linkOf hs i h ∧ linkOf hs i h < hs.length := by
 unfold linkOf
 have := Nat.mod_lt (i + dist hs i h) hn
 omega
theorem tower_rows {t t2 : List Int} {t3 : List (List Int)} (h : TowerR t t2 t3) : t2.length = t.length ∧ RowsR t.length t3 ∧ t.length ≤ 1000 ∧ t ≠ [] ∧ t.Nodup := by
 obtain ⟨⟨h1, h2, h3, h4⟩, rfl⟩ := h
 refine ⟨h2, ⟨by simp [nextOf, h2], fun row hrow => ⟨next_len h4 hrow, fun j hj => ?_⟩⟩, h3.1, h1, h3.2.2⟩
 have h0 : 0 < t2.length := by rw [h2]; exact List.length_pos_iff.2 h1
 simp only [nextOf, List.mem_map, List.mem_range] at hrow
 obtain ⟨i, _, rfl⟩ := hrow
 simp only [linksOf, List.mem_map] at hj
 obtain ⟨q, _, rfl⟩ := hj
 rw [← h2]; exact link_range h0
theorem put2_loop (N : Nat) (v45 v46 : Int) (t t2 : List Int) (t3 : List (List Int)) (v5 v52 : Int) (p p2 : List Int) (l : List Hd) (nodes : List Nd) (a b x x2 : Int) (row : List Int) (hr : row.length ≤ 8) (hj : ∀ j ∈ row, 0 ≤ j ∧ j < l.length) : ∀ (k i m : Nat) (acc : List Hd), i + k = row.length → k < m → acc.length ≤ i →
   l_u79_2 N m (v45, v46, row, (row.length : Int), (i : Int), t, t2, t3, v5, v52, p, p2, l, nodes, a, b, x, x2, acc) = some (v45, v46, t, t2, t3, v5, v52, p, p2, l, nodes, a, b, x, x2, acc ++ (row.drop i).map (toH l))
 | k, i, 0, acc, h1, h2, _ => by omega
 | 0, i, m + 1, acc, h1, h2, _ => by rw [l_u79_2_s, cd, if_neg (by omega), List.drop_eq_nil_of_le (by omega), List.map_nil, List.append_nil]
 | k + 1, i, m + 1, acc, h1, h2, h3 => by
   obtain ⟨j, hj'⟩ := get_at (xs := row) (i := i) (by omega)
   obtain ⟨j0, j1⟩ := hj j (List.mem_of_getElem? hj')
   rw [l_u79_2_s, cd, if_pos (by omega), nth_of hj', ob, toH_of j0 j1, ob, ob, app_of (by omega) (by simp; omega), ob, w64n (by omega), put2_loop N v45 v46 t t2 t3 v5 v52 p p2 l nodes a b x x2 row hr hj k (i + 1) m _ (by omega) (by omega) (by simp; omega), drop_at hj', List.map_cons, List.append_assoc]
   rfl
theorem put1_loop (N : Nat) (hN : Fu ≤ N) (t t2 : List Int) (t3 : List (List Int)) (v5 v52 : Int) (p p2 : List Int) (l : List Hd) (ns : List Nd) (h2l : t2.length = t.length) (hrows : RowsR t.length t3) (hn : t.length ≤ 1000) (hll : l.length = t.length) (hc : ∀ h ∈ l, 0 ≤ h.1 ∧ h.1 < ns.length) : ∀ (k i m : Nat), i + k = t.length → k < m →
   l_u79_1 N m ((t.length : Int), (i : Int), t, t2, t3, v5, v52, p, p2, l, wrK l t t2 t3 ns i) = some (v5, v52, p, p2, l, wrK l t t2 t3 ns t.length)
 | k, i, 0, h1, h2 => by omega
 | 0, i, m + 1, h1, h2 => by
   obtain rfl : i = t.length := by omega
   rw [l_u79_1_s, cd, if_neg (by omega)]
 | k + 1, i, m + 1, h1, h2 => by
   obtain ⟨x, hx⟩ := get_at (xs := t) (i := i) (by omega)
   obtain ⟨y, hy⟩ := get_at (xs := t2) (i := i) (by omega)
   obtain ⟨row, hrow⟩ := get_at (xs := t3) (i := i) (by rw [hrows.1]; omega)
   obtain ⟨h, hh⟩ := get_at (xs := l) (i := i) (by omega)
   obtain ⟨r8, rj⟩ := hrows.2 row (List.mem_of_getElem? hrow)
   obtain ⟨c0, c1⟩ := hc h (List.mem_of_getElem? hh)
   obtain ⟨z, hz⟩ := nget (ns := wrK l t t2 t3 ns i) (h := h) c0 (by rw [wrK_len]; exact c1)
   rw [l_u79_1_s, cd, if_pos (by omega), nth_of hh, ob, ob, nth_of hx, ob, nth_of hy, ob, nth_of hrow, ob, show ((0 : Int) = ((0 : Nat) : Int)) from rfl, put2_loop N _ _ t t2 t3 v5 v52 p p2 l _ _ _ _ _ row r8 (fun j hj => by rw [hll]; exact rj j hj) row.length 0 N [] (by omega) (by have := Fu_eq; omega) (by simp), ob]
   simp only [List.drop_zero, List.nil_append]
   rw [hz, ob, ob, w64n (by omega)]
   have e : (wrK l t t2 t3 ns i).set h.1.toNat (x, (y, row.map (toH l))) = wrK l t t2 t3 ns (i + 1) := by
     rw [wrK, nodeK]; simp [List.getD, hh, hx, hy, hrow]
   rw [e]
   exact put1_loop N hN t t2 t3 v5 v52 p p2 l ns h2l hrows hn hll hc k (i + 1) m (by omega) (by omega)
open Classical in
def putS (g f : List Int) (ns : List Nd) (t t2 : List Int) (t3 : List (List Int)) : Int × List Int × List Int × List Nd × Int × Int :=
 if rightS g f ns = false then (1, g, f, ns, 0, 0) else if ¬ TowerR t t2 t3 then (1, g, f, ns, 0, 0) else
 if (takeN t.length g f).1 ≠ 0 then ((takeN t.length g f).1, g, f, ns, 0, 0)
 else (0, (takeN t.length g f).2.1, (takeN t.length g f).2.2.1, wrK (takeN t.length g f).2.2.2 t t2 t3 ns t.length, toH (takeN t.length g f).2.2.2 0)
theorem put_eq (N : Nat) (hN : Fu + 10 ≤ N) (g f : List Int) (hg : g.length ≤ 9223372036854775807) (hf : f.length ≤ 9223372036854775807) (ns : List Nd) (hl : LN ns) (t t2 : List Int) (t3 : List (List Int)) (h1 : t.length ≤ 9223372036854775807) (h2 : t2.length ≤ 9223372036854775807) :
   m_u79 N (g, f, ns, t, t2, t3) = some (putS g f ns t t2 t3) := by
 obtain ⟨N, rfl⟩ : ∃ n, N = n + 1 := ⟨N - 1, by omega⟩
 rw [m_u79_eq, sright_eq N (by omega) g f hg hf ns hl, ob]
 unfold putS
 cases hr : rightS g f ns with
 | false => simp
 | true =>
   rw [Bool.not_true, cond_false, tright_eq N (by omega) t t2 t3 h1 h2, ob, if_neg (by simp)]
   by_cases ht : TowerR t t2 t3
   · obtain ⟨e2, hrows, h1000, hne, hnd⟩ := tower_rows ht
     obtain ⟨r, hr1, hr2, hr3⟩ := taken_neq N (by omega) t.length h1000 g f hg hf
     rw [cdn, if_pos ht, hr1, ob, cdn, if_neg (show ¬ ¬ TowerR t t2 t3 from fun q => q ht)]
     by_cases h0 : r.1 = 0
     · rw [if_pos h0, if_neg (by rw [← hr2]; exact fun q => q h0)]
       have e := hr3 h0
       have ok := takeN_ok t.length (rightS_iff.1 hr).1 (by rw [← hr2]; exact h0)
       have hlen := (rightS_iff.1 hr).2.1
       obtain ⟨g1, f1, _⟩ := right_len (rightS_iff.1 hr).1
       rw [nclone_eq N (by omega) ns (by omega), ob, e, ok.len, show ((0 : Int) = ((0 : Nat) : Int)) from rfl]
       have hL := put1_loop N (by omega) t t2 t3 0 0 (takeN t.length g f).2.1 (takeN t.length g f).2.2.1 (takeN t.length g f).2.2.2 ns e2 hrows h1000 ok.len (fun h hh => by
         obtain ⟨a, b, _⟩ := ok.cell h hh; exact ⟨a, by omega⟩) t.length 0 N (by omega) (by have := Fu_eq; omega)
       rw [show wrK (takeN t.length g f).2.2.2 t t2 t3 ns 0 = ns from rfl] at hL
       rw [show ((0 : Int) = ((0 : Nat) : Int)) from rfl] at hL
       rw [hL, ob]
       have hp : 0 < t.length := List.length_pos_iff.2 hne
       rw [toH_of (l := (takeN t.length g f).2.2.2) (j := ((0 : Nat) : Int)) (by omega) (by rw [ok.len]; omega), ob, ob]
     · rw [if_neg h0, if_pos (by rw [← hr2]; exact h0), hr2]
   · rw [cdn, if_neg ht, if_pos ht]
def smakeS (n : Int) : Int × List Int × List Int × List Nd := if (makeP n).1 = 0 then (0, (makeP n).2.1, (makeP n).2.2, List.replicate n.toNat (0, (0, []))) else ((makeP n).1, [], [], [])
theorem makeP_zero {n : Int} (h : (makeP n).1 = 0) : 1 ≤ n ∧ n ≤ 1000 := by
 unfold makeP at h
 by_cases c : n < 1 ∨ 1000 < n
 · rw [if_pos c] at h; cases h
 · omega
theorem smake_eq (N : Nat) (hN : Fu + 2 ≤ N) (n : Int) : m_u64 N n = some (smakeS n) := by
 obtain ⟨N, rfl⟩ : ∃ n, N = n + 1 := ⟨N - 1, by omega⟩
 rw [m_u64_eq, make_eq N (by omega), ob, cdn]
 unfold smakeS
 by_cases h : (makeP n).1 = 0
 · have := makeP_zero h
   rw [if_pos h, if_pos h, mak_of (by omega) (by omega) (by omega), ob]
 · rw [if_neg h, if_neg h]
end Go.Proofs.Ytdahghkmejnlgaa
end
noncomputable section
set_option linter.unusedVariables false
set_option linter.unusedSimpArgs false
namespace Go.Proofs.Ytdahghkmejnlgaa
open Go Go.RowKit
structure Holds (g f : List Int) (ns : List Nd) (t t2 : List Int) (t3 : List (List Int)) (l : List Hd) : Prop where
 tow : TowerR t t2 t3
 len : l.length = t.length
 good : GoodL g f l
 nodup : l.Nodup
 node : ∀ (i : Nat) h, l[i]? = some h → nd ns h = nodeK l t t2 t3 i
theorem tower_get {t t2 : List Int} {t3 : List (List Int)} (h : TowerR t t2 t3) {i : Nat} (hi : i < t.length) : t3.getD i [] = linksOf t2 i := by
 obtain ⟨⟨h1, h2, h3, h4⟩, rfl⟩ := h
 have : i < t2.length := by omega
 simp [nextOf, List.getD, this]
end Go.Proofs.Ytdahghkmejnlgaa
end
noncomputable section
set_option linter.unusedVariables false
set_option linter.unusedSimpArgs false
namespace Go.Proofs.Ytdahghkmejnlgaa
open Go Go.RowKit
theorem fullN_iff {g f : List Int} {x : Nd} : fullN g f x = true ↔ (0 ≤ x.1 ∧ 1 ≤ x.2.1 ∧ x.2.1 ≤ 8 ∧ (x.2.2.length : Int) = x.2.1) ∧ GoodL g f x.2.2 := by
 simp only [fullN, Bool.and_eq_true, decide_eq_true_eq, List.all_eq_true, GoodL]
theorem emptyN_iff {x : Nd} : emptyN x = true ↔ x = (0, (0, [])) := by
 obtain ⟨a, b, c⟩ := x
 simp [emptyN, Bool.and_eq_true]
def CellsR (g f : List Int) (ns : List Nd) : Prop := ∀ (c : Nat) x, ns[c]? = some x → ((c : Int) ∈ f → x = (0, (0, []))) ∧ ((c : Int) ∉ f → fullN g f x = true)
theorem rightS_cells {g f : List Int} {ns : List Nd} : rightS g f ns = true ↔ rightB g f = true ∧ ns.length = g.length ∧ CellsR g f ns := by
 rw [rightS_iff]
 refine and_congr_right fun _ => and_congr_right fun _ => ⟨fun h c x hx => ?_, fun h c x hx => ?_⟩
 · have := h c x hx
   unfold cellOk at this
   by_cases hc : (c : Int) ∈ f
   · rw [if_pos hc, emptyN_iff] at this; exact ⟨fun _ => this, fun h => absurd hc h⟩
   · rw [if_neg hc] at this; exact ⟨fun h => absurd h hc, fun _ => this⟩
 · unfold cellOk
   by_cases hc : (c : Int) ∈ f
   · rw [if_pos hc, emptyN_iff]; exact (h c x hx).1 hc
   · rw [if_neg hc]; exact (h c x hx).2 hc
theorem wrK_ne {l : List Hd} {t t2 : List Int} {t3 : List (List Int)} {ns : List Nd} {c : Nat} : ∀ (k : Nat), (∀ i, i < k → (l.getD i (0, 0)).1.toNat ≠ c) → (wrK l t t2 t3 ns k)[c]? = ns[c]?
 | 0, _ => rfl
 | k + 1, h => by
   rw [wrK, List.getElem?_set_ne (h k (by omega)), wrK_ne k fun i hi => h i (by omega)]
theorem wrK_at {l : List Hd} {t t2 : List Int} {t3 : List (List Int)} {ns : List Nd} {i : Nat} (hlt : (l.getD i (0, 0)).1.toNat < ns.length) : ∀ (k : Nat), i < k → (∀ j, i < j → j < k → (l.getD j (0, 0)).1.toNat ≠ (l.getD i (0, 0)).1.toNat) → (wrK l t t2 t3 ns k)[(l.getD i (0, 0)).1.toNat]? = some (nodeK l t t2 t3 i)
 | 0, h, _ => by omega
 | k + 1, h, hne => by
   rw [wrK]
   by_cases hk : i = k
   · subst hk
     rw [List.getElem?_set_self (by rw [wrK_len]; exact hlt)]
   · rw [List.getElem?_set_ne (hne k (by omega) (by omega)), wrK_at hlt k (by omega) fun j h1 h2 => hne j h1 (by omega)]
structure PutOk (g f : List Int) (ns : List Nd) (t t2 : List Int) (t3 : List (List Int)) (g' f' : List Int) (ns' : List Nd) (l : List Hd) : Prop where
 right : rightS g' f' ns' = true
 holds : Holds g' f' ns' t t2 t3 l
 free : f = f' ++ (l.map (·.1)).reverse
 gens : g'.length = g.length
 good : ∀ h : Hd, goodB g f h.1 h.2 = true → goodB g' f' h.1 h.2 = true ∧ nd ns' h = nd ns h ∧ ∀ q ∈ l, q.1 ≠ h.1
 same : ∀ (c : Nat), (c : Int) ∉ l.map (·.1) → g'.getD c 0 = g.getD c 0 ∧ ns'[c]? = ns[c]?
 one : ∀ h ∈ l, h.2 = g.getD h.1.toNat 0 + 1 ∧ g'.getD h.1.toNat 0 = h.2
theorem put_ok {g f : List Int} {ns : List Nd} {t t2 : List Int} {t3 : List (List Int)} (hr : rightS g f ns = true) (ht : TowerR t t2 t3) (h0 : (takeN t.length g f).1 = 0) :
   PutOk g f ns t t2 t3 (takeN t.length g f).2.1 (takeN t.length g f).2.2.1 (wrK (takeN t.length g f).2.2.2 t t2 t3 ns t.length) (takeN t.length g f).2.2.2 := by
 obtain ⟨hb, hlen, hcells⟩ := rightS_cells.1 hr
 have ok := takeN_ok t.length hb h0
 obtain ⟨e2, hrows, h1000, hne, hnd⟩ := tower_rows ht
 generalize (takeN t.length g f) = r at *
 obtain ⟨rz, g', f', l⟩ := r
 obtain ⟨k1, k2, k3, k4, k5, k6⟩ := ok
 simp only at k1 k2 k3 k4 k5 k6 ⊢
 have hfn := (rightB_iff.1 hb).2.2
 rw [k2, List.nodup_append] at hfn
 obtain ⟨hn1, hn2, hn3⟩ := hfn
 have hcn : (l.map (·.1)).Nodup := (List.reverse_perm _).nodup_iff.1 hn2
 have hln : l.Nodup := (List.pairwise_map.1 hcn).imp fun h e => h (by rw [e])
 have hmem : ∀ c : Int, c ∈ f ↔ c ∈ f' ∨ c ∈ l.map (·.1) := fun c => by rw [k2]; simp only [List.mem_append, List.mem_reverse]
 have hdis : ∀ c : Int, c ∈ l.map (·.1) → c ∉ f' := fun c hc hf => hn3 c hf c (by simpa using hc) rfl
 have hgd : ∀ (i : Nat) h, l[i]? = some h → l.getD i (0, 0) = h := fun i h hh => by simp [List.getD, hh]
 have hgood : GoodL g' f' l := fun h hh => goodB_iff.2 ⟨k6, (k5 h hh).1, by have := (k5 h hh).2.1; omega, (k5 h hh).2.2.1, hdis _ (List.mem_map_of_mem hh)⟩
 have hold : ∀ h : Hd, goodB g f h.1 h.2 = true → goodB g' f' h.1 h.2 = true ∧ h.1 ∉ l.map (·.1) := fun h hh => by
   obtain ⟨_, c0, c1, c2, c3⟩ := goodB_iff.1 hh
   rw [hmem] at c3
   have hct : ((h.1.toNat : Nat) : Int) = h.1 := by omega
   exact ⟨goodB_iff.2 ⟨k6, c0, by omega, by rw [k4 _ (by rw [hct]; exact fun q => c3 (.inr q))]; exact c2, fun q => c3 (.inl q)⟩, fun q => c3 (.inr q)⟩
 have hinj : ∀ (i j : Nat), i < l.length → j < l.length → (l.getD i (0, 0)).1.toNat = (l.getD j (0, 0)).1.toNat → i = j := fun i j hi hj e => by
   obtain ⟨x, hx⟩ := get_at hi
   obtain ⟨y, hy⟩ := get_at hj
   rw [hgd i x hx, hgd j y hy] at e
   have h1 := (k5 x (List.mem_of_getElem? hx)).1
   have h2 := (k5 y (List.mem_of_getElem? hy)).1
   have e3 : x.1 = y.1 := by omega
   refine (List.getElem?_inj (by simpa using hi) hcn).1 ?_
   rw [List.getElem?_map, List.getElem?_map, hx, hy, Option.map_some, Option.map_some, e3]
 have hat : ∀ (i : Nat) h, l[i]? = some h → (wrK l t t2 t3 ns t.length)[h.1.toNat]? = some (nodeK l t t2 t3 i) := fun i h hh => by
   have hi : i < l.length := (List.getElem?_eq_some_iff.1 hh).1
   have hk := k5 h (List.mem_of_getElem? hh)
   have := wrK_at (l := l) (t := t) (t2 := t2) (t3 := t3) (ns := ns) (i := i) (by rw [hgd i h hh]; omega) t.length (by omega) fun j h1 h2 e => by
     have := hinj j i (by omega) hi e; omega
   rwa [hgd i h hh] at this
 have hnt : ∀ c : Nat, (c : Int) ∉ l.map (·.1) → (wrK l t t2 t3 ns t.length)[c]? = ns[c]? := fun c hc => wrK_ne t.length fun i hi e => by
   obtain ⟨x, hx⟩ := get_at (xs := l) (i := i) (by omega)
   rw [hgd i x hx] at e
   have h1 := (k5 x (List.mem_of_getElem? hx)).1
   refine hc ?_
   rw [← e, show ((x.1.toNat : Nat) : Int) = x.1 by omega]
   exact List.mem_map_of_mem (List.mem_of_getElem? hx)
 have hfull : ∀ (i : Nat), i < t.length → fullN g' f' (nodeK l t t2 t3 i) = true := fun i hi => by
   obtain ⟨x, hx⟩ := get_at hi
   have hi2 : i < t2.length := by omega
   have hT := ht.1.2.2.1.2.1 x (List.mem_of_getElem? hx)
   have hH := high_at ht.1.2.2.2 hi2
   rw [fullN_iff, nodeK, tower_get ht hi]
   refine ⟨⟨by simp only [List.getD, hx]; exact hT.1, hH.1, hH.2, by show (((linksOf t2 i).map (toH l)).length : Int) = hAt t2 i; rw [List.length_map, linksOf, List.length_map, List.length_range]; omega⟩, fun q hq => ?_⟩
   simp only [List.mem_map] at hq
   obtain ⟨j, hj, rfl⟩ := hq
   simp only [linksOf, List.mem_map] at hj
   obtain ⟨y, _, rfl⟩ := hj
   obtain ⟨l0, l1⟩ := link_range (hs := t2) (i := i) (h := y) (by omega)
   have hql : (linkOf t2 i y).toNat < l.length := by omega
   rw [toH, List.getD_eq_getElem?_getD, List.getElem?_eq_getElem hql]
   exact hgood _ (List.getElem_mem _)
 refine ⟨rightS_cells.2 ⟨k6, by rw [wrK_len, hlen, k3], fun c x hx => ?_⟩, ⟨ht, k1, hgood, hln, fun i h hh => ?_⟩, k2, k3, fun h hh => ?_, fun c hc => ⟨k4 c hc, hnt c hc⟩, fun h hh => ⟨(k5 h hh).2.2.2, (k5 h hh).2.2.1⟩⟩
 · by_cases hc : (c : Int) ∈ l.map (·.1)
   · obtain ⟨h, hh, e⟩ := List.mem_map.1 hc
     obtain ⟨i, hi⟩ := List.getElem?_of_mem hh
     have hil : i < l.length := (List.getElem?_eq_some_iff.1 hi).1
     have := hat i h hi
     rw [show h.1.toNat = c by omega, hx] at this
     cases this
     exact ⟨fun q => absurd q (hdis _ hc), fun _ => hfull i (by omega)⟩
   · rw [hnt c hc] at hx
     obtain ⟨a, b⟩ := hcells c x hx
     refine ⟨fun q => a ((hmem _).2 (.inl q)), fun q => ?_⟩
     have := b (fun z => ((hmem _).1 z).elim q hc)
     rw [fullN_iff] at this ⊢
     exact ⟨this.1, fun y hy => (hold y (this.2 y hy)).1⟩
 · rw [nd, List.getD_eq_getElem?_getD, hat i h hh]; rfl
 · obtain ⟨a, b⟩ := hold h hh
   have hc := (goodB_iff.1 hh).2.1
   refine ⟨a, ?_, fun q hq e => b (by rw [← e]; exact List.mem_map_of_mem hq)⟩
   rw [nd, nd, List.getD_eq_getElem?_getD, List.getD_eq_getElem?_getD, hnt _ (by rw [show ((h.1.toNat : Nat) : Int) = h.1 by omega]; exact b)]
structure GiveOk (g f : List Int) (ns : List Nd) (L : List Hd) (f' : List Int) (ns' : List Nd) : Prop where
 right : rightS g f' ns' = true
 free : f' = f ++ L.map (·.1)
 good : ∀ h : Hd, goodB g f h.1 h.2 = true → h ∉ L → goodB g f' h.1 h.2 = true ∧ nd ns' h = nd ns h
 stale : ∀ h ∈ L, goodB g f' h.1 h.2 = false
 same : ∀ (c : Nat), (∀ h ∈ L, h.1 ≠ (c : Int)) → ns'[c]? = ns[c]?
theorem Holds.put {g f : List Int} {ns : List Nd} {t t2 : List Int} {t3 : List (List Int)} {g' f' : List Int} {ns' : List Nd} {l : List Hd} (P : PutOk g f ns t t2 t3 g' f' ns' l) {u u2 : List Int} {u3 : List (List Int)} {m : List Hd} (H : Holds g f ns u u2 u3 m) : Holds g' f' ns' u u2 u3 m ∧ ∀ h ∈ m, h ∉ l :=
 ⟨⟨H.tow, H.len, fun h hh => (P.good h (H.good h hh)).1, H.nodup, fun i h hh => by rw [(P.good h (H.good h (List.mem_of_getElem? hh))).2.1]; exact H.node i h hh⟩, fun h hh hl => (P.good h (H.good h hh)).2.2 h hl rfl⟩
end Go.Proofs.Ytdahghkmejnlgaa
end
noncomputable section
set_option linter.unusedVariables false
set_option maxRecDepth 100000
namespace Go.Proofs.Ytdahghkmejnlgaa
open Go Go.RowKit
def ct_u43 (N : Nat) : List Ctr := []
def i_u43_1 : PS := ⟨[(1, .h s0), (2, .k (.pt 900 0)), (5, .h s0), (6, .h s0)], [(900, .box 63 [.h s0, .h s4])], [s0, s0, s0, s0, s4]⟩
def o_u43_1 : List (Exit × PS) := [((.exit 0), ⟨[(1, .h s0), (5, .h s0)], [], [s0, s0]⟩)]
def p_u43_1 : Pl := .z
def l_u43_1 (N : Nat) : Nat → Int × Int × Int × Int × (List (List Int)) → Option (Int × Int) := loopF (exC T (ct_u43 N) N (codeAt [1, 1, 0, 1, 0, 0] (bodyOf Try.f29))) 33 i_u43_1 o_u43_1 p_u43_1
def p_u43 : Pl := (.n .z (.n .z (.n (.n .z (.n (.loop i_u43_1 o_u43_1 p_u43_1) .z)) .z)))
def r_u43 : PS := ⟨[(4, .h .b)], [], [.b]⟩
def m_u43 (N : Nat) : Int × (List (List Int)) × Int → Option (Bool) := exF T ct_u43 N (bodyOf Try.f29) 33 p_u43 [.ag [.h s0, .h s4], .h s0] [] [s0, s4, s0] r_u43
def c_u43 (N : Nat) : Ctr := ⟨29, [.ag [.h s0, .h s4], .h s0], [], [s0, s4, s0], Tup r_u43.c, m_u43 N, fun y _ k => k (resG T (mkPS 33 r_u43 y) Try.f29.results.toList) (keepH' [] (mkPS 33 r_u43 y).h), false, true⟩
theorem l_u43_1_s (N m : Nat) (most : Int) (n : Int) (i : Int) (f : Int) (f2 : (List (List Int))) : l_u43_1 N (m + 1) (most, n, i, f, f2) = cond (decide (i < (((List.length f2) : Nat) : Int)))
  (cond (decide (n ≤ most))
    (obind (nthI f2 i) fun z1 =>
     (l_u43_1 N m (most, ((IntKind.wrap .i64 (n + (((List.length z1) : Nat) : Int))), ((IntKind.wrap .i64 (i + (1 : Int))), (f, f2))))))
    (some (most, n)))
  (some (most, n)) := by kernel_rfl
theorem m_u43_eq (N : Nat) (f : Int) (f2 : (List (List Int))) (most : Int) : m_u43 (N + 1) (f, f2, most) = obind (l_u43_1 N N (most, ((((List.length f2) : Nat) : Int), ((0 : Int), (f, f2))))) fun z1 =>
 some (decide (z1.1 < z1.2)) := by kernel_rfl
theorem c_u43_ok (N : Nat) : (c_u43 N).ok Try.prog := exF_ok (T := T) (CT := ct_u43) (N := N) (fun M => ⟨tOk, ctAll_nil, mixed, bwAll⟩) Try.func29 (by kernel_rfl) (by kernel_rfl) p_u43 _ _ [s0, s4, s0] r_u43 false true [] (by kernel_rfl) (fun y => by kernel_rfl) (fun _ => ⟨rfl, rfl⟩) (fun y => by kernel_rfl) (m_u43 N) (fun x => by kernel_rfl)
def ct_u69 (N : Nat) : List Ctr := []
def p_u69 : Pl := .z
def r_u69 : PS := ⟨[(2, .h .b)], [], [.b]⟩
def m_u69 (N : Nat) : Int → Option (Bool) := exF T ct_u69 N (bodyOf Try.f79) 9 p_u69 [.h s0] [] [s0] r_u69
def c_u69 (N : Nat) : Ctr := ⟨79, [.h s0], [], [s0], Tup r_u69.c, m_u69 N, fun y _ k => k (resG T (mkPS 9 r_u69 y) Try.f79.results.toList) (keepH' [] (mkPS 9 r_u69 y).h), false, true⟩
theorem m_u69_eq (N : Nat) (n : Int) : m_u69 (N + 1) (n) = cond (decide ((1 : Int) ≤ n))
  (some (decide (n ≤ (64 : Int))))
  (some false) := by kernel_rfl
theorem c_u69_ok (N : Nat) : (c_u69 N).ok Try.prog := exF_ok (T := T) (CT := ct_u69) (N := N) (fun M => ⟨tOk, ctAll_nil, mixed, bwAll⟩) Try.func79 (by kernel_rfl) (by kernel_rfl) p_u69 _ _ [s0] r_u69 false true [] (by kernel_rfl) (fun y => by kernel_rfl) (fun _ => ⟨rfl, rfl⟩) (fun y => by kernel_rfl) (m_u69 N) (fun x => by kernel_rfl)
def ct_u83 (N : Nat) : List Ctr := [c_u69 N]
def p_u83 : Pl := .z
def r_u83 : PS := ⟨[(4, .h .b)], [], [.b]⟩
def m_u83 (N : Nat) : Int × Int → Option (Bool) := exF T ct_u83 N (bodyOf Try.f101) 16 p_u83 [.h s0, .h s0] [] [s0, s0] r_u83
def c_u83 (N : Nat) : Ctr := ⟨101, [.h s0, .h s0], [], [s0, s0], Tup r_u83.c, m_u83 N, fun y _ k => k (resG T (mkPS 16 r_u83 y) Try.f101.results.toList) (keepH' [] (mkPS 16 r_u83 y).h), false, true⟩
theorem m_u83_eq (N : Nat) (n : Int) (v : Int) : m_u83 (N + 1) (n, v) = obind (m_u69 N n) fun z1 =>
 cond z1
  (cond (decide ((0 : Int) ≤ v))
    (some (decide (v < n)))
    (some false))
  (some false) := by kernel_rfl
theorem c_u83_ok (N : Nat) : (c_u83 N).ok Try.prog := exF_ok (T := T) (CT := ct_u83) (N := N) (fun M => ⟨tOk, (ctAll_cons (c_u69_ok M) ctAll_nil), mixed, bwAll⟩) Try.func101 (by kernel_rfl) (by kernel_rfl) p_u83 _ _ [s0, s0] r_u83 false true [] (by kernel_rfl) (fun y => by kernel_rfl) (fun _ => ⟨rfl, rfl⟩) (fun y => by kernel_rfl) (m_u83 N) (fun x => by kernel_rfl)
def ct_u68 (N : Nat) : List Ctr := [c_u69 N]
def p_u68 : Pl := .z
def r_u68 : PS := ⟨[(4, .h s0), (5, .h s0), (6, .h .b), (7, .h .b)], [], [s0, s0, .b, .b]⟩
def m_u68 (N : Nat) : Int × Int → Option (Int × Int × Bool × Bool) := exF T ct_u68 N (bodyOf Try.f102) 41 p_u68 [.h s0, .h s0] [] [s0, s0] r_u68
def c_u68 (N : Nat) : Ctr := ⟨102, [.h s0, .h s0], [], [s0, s0], Tup r_u68.c, m_u68 N, fun y _ k => k (resG T (mkPS 41 r_u68 y) Try.f102.results.toList) (keepH' [] (mkPS 41 r_u68 y).h), false, true⟩
theorem m_u68_eq (N : Nat) (n : Int) (token : Int) : m_u68 (N + 1) (n, token) = obind (m_u69 N n) fun z1 =>
 cond (!z1)
  (some ((0 : Int), ((0 : Int), (false, false))))
  (cond (decide (token < (0 : Int)))
    (some ((0 : Int), ((0 : Int), (false, false))))
    (cond (decide ((IntKind.wrap .i64 (n * (IntKind.wrap .i64 (n + (1 : Int))))) ≤ token))
      (some ((0 : Int), ((0 : Int), (false, false))))
      (cond (decide (token < n))
        (some (token, ((0 : Int), (false, true))))
        (obind (quoI token n) fun z2 =>
         obind (remI token n) fun z3 =>
         cond (decide ((IntKind.wrap .i64 ((IntKind.wrap .i64 z2) - (1 : Int))) = z3))
          (some ((0 : Int), ((0 : Int), (false, false))))
          (some ((IntKind.wrap .i64 ((IntKind.wrap .i64 z2) - (1 : Int))), (z3, (true, true)))))))) := by kernel_rfl
theorem c_u68_ok (N : Nat) : (c_u68 N).ok Try.prog := exF_ok (T := T) (CT := ct_u68) (N := N) (fun M => ⟨tOk, (ctAll_cons (c_u69_ok M) ctAll_nil), mixed, bwAll⟩) Try.func102 (by kernel_rfl) (by kernel_rfl) p_u68 _ _ [s0, s0] r_u68 false true [] (by kernel_rfl) (fun y => by kernel_rfl) (fun _ => ⟨rfl, rfl⟩) (fun y => by kernel_rfl) (m_u68 N) (fun x => by kernel_rfl)
def ct_u18 (N : Nat) : List Ctr := []
def p_u18 : Pl := .z
def r_u18 : PS := ⟨[(6, .h .b)], [(4294967298, .mp (.int .i64) s0 s0), (4294967299, .mp (.int .i64) s0 s0), (4294967296, .box 141 [.k (.ow 900), .k (.mp 4294967298), .k (.mp 4294967299)]), (900, .arr 3 s0 true)], [.b, s6, s6, s2]⟩
def m_u18 (N : Nat) : Int × Int × (List Int) × (List (Int × Int)) × (List (Int × Int)) → Option (Bool × (List (Int × Int)) × (List (Int × Int)) × (List Int)) := exF T ct_u18 N (bodyOf Try.f103) 73 p_u18 [.k (.pt 4294967296 0), .h s0, .h s0] [(4294967296, .box 141 [.k (.ow 4294967297), .k (.mp 4294967298), .k (.mp 4294967299)]), (4294967297, .arr 3 s0 true), (4294967298, .mp (.int .i64) s0 s0), (4294967299, .mp (.int .i64) s0 s0)] [s0, s0, s2, s6, s6] r_u18
def c_u18 (N : Nat) : Ctr := ⟨103, [.k (.pt 4294967296 0), .h s0, .h s0], [(4294967296, .box 141 [.k (.ow 4294967297), .k (.mp 4294967298), .k (.mp 4294967299)]), (4294967297, .arr 3 s0 true), (4294967298, .mp (.int .i64) s0 s0), (4294967299, .mp (.int .i64) s0 s0)], [s0, s0, s2, s6, s6], Tup r_u18.c, m_u18 N, fun y _ k => k (resG T (mkPS 73 r_u18 y) Try.f103.results.toList) (keepH' [4294967298, 4294967299, 4294967296, 900] (mkPS 73 r_u18 y).h), true, true⟩
theorem m_u18_eq (N : Nat) (u : Int) (v : Int) (h : (List Int)) (h2 : (List (Int × Int))) (h3 : (List (Int × Int))) : m_u18 (N + 1) (u, v, h, h2, h3) = obind (nthI h (IntKind.wrap .i64 ((((List.length h) : Nat) : Int) - (1 : Int)))) fun z1 =>
 obind (nthI h (IntKind.wrap .i64 ((((List.length h) : Nat) : Int) - (1 : Int)))) fun z2 =>
 cond (!(decide (z2 = u)))
  (some (false, (h2, (h3, h))))
  (cond (decide ((0 : Int) < (IntKind.wrap .i64 ((((List.length h) : Nat) : Int) - (1 : Int)))))
    (obind (nthI h (IntKind.wrap .i64 ((IntKind.wrap .i64 ((((List.length h) : Nat) : Int) - (1 : Int))) - (1 : Int)))) fun z3 =>
     obind (nthI h (IntKind.wrap .i64 ((IntKind.wrap .i64 ((((List.length h) : Nat) : Int) - (1 : Int))) - (1 : Int)))) fun z4 =>
     cond (decide (z4 = v))
      (obind (subI h (0 : Int) (IntKind.wrap .i64 ((((List.length h) : Nat) : Int) - (1 : Int)))) fun z5 =>
       some (true, (h2, (h3, z5))))
      (cond (decide ((0 : Int) < (Option.getD (mget (.i .i64) h2 v) (0 : Int))))
        (some (false, (h2, (h3, h))))
        (obind (appI (8 : Nat) h [v]) fun z6 =>
         some (true, ((mput (.i .i64) h2 v (IntKind.wrap .i64 ((Option.getD (mget (.i .i64) h2 v) (0 : Int)) + (1 : Int)))), (h3, z6))))))
    (cond (decide ((0 : Int) < (Option.getD (mget (.i .i64) h2 v) (0 : Int))))
      (some (false, (h2, (h3, h))))
      (obind (appI (8 : Nat) h [v]) fun z7 =>
       some (true, ((mput (.i .i64) h2 v (IntKind.wrap .i64 ((Option.getD (mget (.i .i64) h2 v) (0 : Int)) + (1 : Int)))), (h3, z7)))))) := by kernel_rfl
theorem c_u18_ok (N : Nat) : (c_u18 N).ok Try.prog := exF_ok (T := T) (CT := ct_u18) (N := N) (fun M => ⟨tOk, ctAll_nil, mixed, bwAll⟩) Try.func103 (by kernel_rfl) (by kernel_rfl) p_u18 _ _ [s0, s0, s2, s6, s6] r_u18 true true [4294967298, 4294967299, 4294967296, 900] (by kernel_rfl) (fun y => by kernel_rfl) (fun h => by cases h) (fun y => by kernel_rfl) (m_u18 N) (fun x => by kernel_rfl)
def ct_u80 (N : Nat) : List Ctr := [c_u83 N, c_u68 N, c_u18 N]
def i_u80_1 : PS := ⟨[(0, .h s0), (5, .k (.pt 900 0)), (30, .h s2), (31, .h s0), (32, .h s0)], [(900, .box 141 [.k (.ow 901), .k (.mp 902), .k (.mp 903)]), (901, .arr 3 s0 true), (902, .mp (.int .i64) s0 s0), (903, .mp (.int .i64) s0 s0)], [s0, s2, s0, s0, s2, s6, s6]⟩
def o_u80_1 : List (Exit × PS) := [((.exit 0), ⟨[(5, .k (.pt 900 0))], [(900, .box 141 [.k (.ow 901), .k (.mp 902), .k (.mp 903)]), (901, .arr 3 s0 true), (902, .mp (.int .i64) s0 s0), (903, .mp (.int .i64) s0 s0)], [s2, s6, s6]⟩), (.ret, ⟨[(4, .h .b)], [], [.b]⟩)]
def p_u80_1 : Pl := .z
def l_u80_1 (N : Nat) : Nat → Int × (List Int) × Int × Int × (List Int) × (List (Int × Int)) × (List (Int × Int)) → Option (((List Int) × (List (Int × Int)) × (List (Int × Int))) ⊕ (Bool)) := loopF (exC T (ct_u80 N) N (codeAt [1, 1, 1, 0, 1, 0, 0] (bodyOf Try.f81))) 107 i_u80_1 o_u80_1 p_u80_1
def p_u80 : Pl := (.n .z (.n .z (.n .z (.n (.n .z (.n (.loop i_u80_1 o_u80_1 p_u80_1) .z)) .z))))
def r_u80 : PS := ⟨[(4, .h .b)], [], [.b]⟩
def m_u80 (N : Nat) : Int × (List Int) → Option (Bool) := exF T ct_u80 N (bodyOf Try.f81) 107 p_u80 [.h s0, .h s2] [] [s0, s2] r_u80
def c_u80 (N : Nat) : Ctr := ⟨81, [.h s0, .h s2], [], [s0, s2], Tup r_u80.c, m_u80 N, fun y _ k => k (resG T (mkPS 107 r_u80 y) Try.f81.results.toList) (keepH' [] (mkPS 107 r_u80 y).h), false, true⟩
theorem l_u80_1_s (N m : Nat) (n : Int) (v30 : (List Int)) (v31 : Int) (v32 : Int) (v901 : (List Int)) (v902 : (List (Int × Int))) (v903 : (List (Int × Int))) : l_u80_1 N (m + 1) (n, v30, v31, v32, v901, v902, v903) = cond (decide (v32 < v31))
  (obind (nthI v30 v32) fun z1 =>
   obind (m_u68 N (n, z1)) fun z2 =>
   cond (!z2.2.2.2)
    (some (.inr false))
    (cond z2.2.2.1
      (obind (m_u18 N (z2.1, (z2.2.1, (v901, (v902, v903))))) fun z3 =>
       cond (!z3.1)
        (some (.inr false))
        (cond (!z2.2.2.1)
          (obind (nthI z3.2.2.2 (IntKind.wrap .i64 ((((List.length z3.2.2.2) : Nat) : Int) - (1 : Int)))) fun z4 =>
           obind (nthI z3.2.2.2 (IntKind.wrap .i64 ((((List.length z3.2.2.2) : Nat) : Int) - (1 : Int)))) fun z5 =>
           cond (!(decide (z5 = z2.1)))
            (some (.inr false))
            (cond (!z2.2.2.1)
              ((l_u80_1 N m (n, (v30, (v31, ((IntKind.wrap .i64 (v32 + (1 : Int))), (z3.2.2.2, (z3.2.1, (mput (.i .i64) z3.2.2.1 z2.1 (IntKind.wrap .i64 ((Option.getD (mget (.i .i64) z3.2.2.1 z2.1) (0 : Int)) + (1 : Int))))))))))))
              ((l_u80_1 N m (n, (v30, (v31, ((IntKind.wrap .i64 (v32 + (1 : Int))), (z3.2.2.2, (z3.2.1, z3.2.2.1))))))))))
          (cond (!z2.2.2.1)
            ((l_u80_1 N m (n, (v30, (v31, ((IntKind.wrap .i64 (v32 + (1 : Int))), (z3.2.2.2, (z3.2.1, (mput (.i .i64) z3.2.2.1 z2.1 (IntKind.wrap .i64 ((Option.getD (mget (.i .i64) z3.2.2.1 z2.1) (0 : Int)) + (1 : Int))))))))))))
            ((l_u80_1 N m (n, (v30, (v31, ((IntKind.wrap .i64 (v32 + (1 : Int))), (z3.2.2.2, (z3.2.1, z3.2.2.1)))))))))))
      (cond (!z2.2.2.1)
        (obind (nthI v901 (IntKind.wrap .i64 ((((List.length v901) : Nat) : Int) - (1 : Int)))) fun z6 =>
         obind (nthI v901 (IntKind.wrap .i64 ((((List.length v901) : Nat) : Int) - (1 : Int)))) fun z7 =>
         cond (!(decide (z7 = z2.1)))
          (some (.inr false))
          (cond (!z2.2.2.1)
            ((l_u80_1 N m (n, (v30, (v31, ((IntKind.wrap .i64 (v32 + (1 : Int))), (v901, (v902, (mput (.i .i64) v903 z2.1 (IntKind.wrap .i64 ((Option.getD (mget (.i .i64) v903 z2.1) (0 : Int)) + (1 : Int))))))))))))
            ((l_u80_1 N m (n, (v30, (v31, ((IntKind.wrap .i64 (v32 + (1 : Int))), (v901, (v902, v903))))))))))
        (cond (!z2.2.2.1)
          ((l_u80_1 N m (n, (v30, (v31, ((IntKind.wrap .i64 (v32 + (1 : Int))), (v901, (v902, (mput (.i .i64) v903 z2.1 (IntKind.wrap .i64 ((Option.getD (mget (.i .i64) v903 z2.1) (0 : Int)) + (1 : Int))))))))))))
          ((l_u80_1 N m (n, (v30, (v31, ((IntKind.wrap .i64 (v32 + (1 : Int))), (v901, (v902, v903))))))))))))
  (some (.inl (v901, (v902, v903)))) := by kernel_rfl
theorem m_u80_eq (N : Nat) (n : Int) (l : (List Int)) : m_u80 (N + 1) (n, l) = obind (nthI l (0 : Int)) fun z1 =>
 obind (m_u83 N (n, z1)) fun z2 =>
 cond (!z2)
  (some false)
  (obind (nthI l (0 : Int)) fun z3 =>
   obind (nthI l (0 : Int)) fun z4 =>
   obind (l_u80_1 N N (n, (l, ((((List.length l) : Nat) : Int), ((0 : Int), ([z3], ((mput (.i .i64) [] z4 (1 : Int)), []))))))) fun z5 =>
   (match z5 with
   | .inl zy6 => cond (decide ((((List.length zy6.1) : Nat) : Int) = (1 : Int)))
      (some (decide ((((List.length zy6.2.2) : Nat) : Int) = (((List.length zy6.2.1) : Nat) : Int))))
      (some false)
   | .inr zy7 => some zy7)) := by kernel_rfl
theorem c_u80_ok (N : Nat) : (c_u80 N).ok Try.prog := exF_ok (T := T) (CT := ct_u80) (N := N) (fun M => ⟨tOk, (ctAll_cons (c_u83_ok M) (ctAll_cons (c_u68_ok M) (ctAll_cons (c_u18_ok M) ctAll_nil))), mixed, bwAll⟩) Try.func81 (by kernel_rfl) (by kernel_rfl) p_u80 _ _ [s0, s2] r_u80 false true [] (by kernel_rfl) (fun y => by kernel_rfl) (fun _ => ⟨rfl, rfl⟩) (fun y => by kernel_rfl) (m_u80 N) (fun x => by kernel_rfl)
def ct_u67 (N : Nat) : List Ctr := [c_u69 N, c_u62 N, c_u24 N, c_u80 N]
def i_u67_3 : PS := ⟨[(3, .k (.mp 900)), (78, .h s0), (79, .h s0)], [(900, .mp (.int .i64) s0 s0)], [s0, s0, s6]⟩
def o_u67_3 : List (Exit × PS) := [((.exit 4), ⟨[], [], []⟩), (.ret, ⟨[(2, .h .b)], [], [.b]⟩)]
def p_u67_3 : Pl := .z
def l_u67_3 (N : Nat) : Nat → Int × Int × (List (Int × Int)) → Option ((Unit) ⊕ (Bool)) := loopF (exC T (ct_u67 N) N (codeAt [1, 1, 1, 1, 1, 0, 1, 0, 0] (bodyOf Try.f58))) 87 i_u67_3 o_u67_3 p_u67_3
def i_u67_2 : PS := ⟨[(1, .k (.pt 900 0)), (3, .k (.mp 901)), (4, .h s0), (16, .h s4), (17, .h s0), (18, .h s0), (55, .h s2), (56, .h s0), (57, .h s0)], [(900, .box 63 [.h s0, .h s4]), (901, .mp (.int .i64) s0 s0)], [s0, s4, s0, s0, s2, s0, s0, s0, s4, s6]⟩
def o_u67_2 : List (Exit × PS) := [((.exit 2), ⟨[(1, .k (.pt 900 0)), (3, .k (.mp 901)), (4, .h s0), (16, .h s4), (17, .h s0), (18, .h s0)], [(900, .box 63 [.h s0, .h s4]), (901, .mp (.int .i64) s0 s0)], [s0, s4, s0, s0, s0, s4, s6]⟩), (.ret, ⟨[(2, .h .b)], [], [.b]⟩)]
def p_u67_2 : Pl := .z
def l_u67_2 (N : Nat) : Nat → Int × (List (List Int)) × Int × Int × (List Int) × Int × Int × Int × (List (List Int)) × (List (Int × Int)) → Option ((Int × (List (List Int)) × Int × Int × Int × (List (List Int)) × (List (Int × Int))) ⊕ (Bool)) := loopF (exC T (ct_u67 N) N (codeAt [1, 1, 1, 1, 0, 1, 0, 0, 1, 1, 0, 0, 1, 1, 1, 1, 0, 0] (bodyOf Try.f58))) 87 i_u67_2 o_u67_2 p_u67_2
def i_u67_1 : PS := ⟨[(1, .k (.pt 900 0)), (3, .k (.mp 901)), (4, .h s0), (16, .h s4), (17, .h s0), (18, .h s0)], [(900, .box 63 [.h s0, .h s4]), (901, .mp (.int .i64) s0 s0)], [s0, s4, s0, s0, s0, s4, s6]⟩
def o_u67_1 : List (Exit × PS) := [((.exit 0), ⟨[(1, .k (.pt 900 0)), (3, .k (.mp 901))], [(900, .box 63 [.h s0, .h s4]), (901, .mp (.int .i64) s0 s0)], [s0, s4, s6]⟩), (.ret, ⟨[(2, .h .b)], [], [.b]⟩)]
def p_u67_1 : Pl := (.n .z (.n .z (.n (.n (.n .z (.n .z (.n .z (.n .z (.n (.loop i_u67_2 o_u67_2 p_u67_2) .z))))) .z) .z)))
def l_u67_1 (N : Nat) : Nat → Int × (List (List Int)) × Int × Int × Int × (List (List Int)) × (List (Int × Int)) → Option ((Int × (List (List Int)) × (List (Int × Int))) ⊕ (Bool)) := loopF (exC T (ct_u67 N) N (codeAt [1, 1, 1, 1, 0, 1, 0, 0] (bodyOf Try.f58))) 87 i_u67_1 o_u67_1 p_u67_1
def p_u67 : Pl := (.n .z (.n .z (.n .z (.n .z (.n (.n .z (.n (.loop i_u67_1 o_u67_1 p_u67_1) .z)) (.n (.n .z (.n (.loop i_u67_3 o_u67_3 p_u67_3) .z)) .z))))))
def r_u67 : PS := ⟨[(2, .h .b)], [], [.b]⟩
def m_u67 (N : Nat) : Int × (List (List Int)) → Option (Bool) := exF T ct_u67 N (bodyOf Try.f58) 87 p_u67 [.ag [.h s0, .h s4]] [] [s0, s4] r_u67
def c_u67 (N : Nat) : Ctr := ⟨58, [.ag [.h s0, .h s4]], [], [s0, s4], Tup r_u67.c, m_u67 N, fun y _ k => k (resG T (mkPS 87 r_u67 y) Try.f58.results.toList) (keepH' [] (mkPS 87 r_u67 y).h), false, true⟩
theorem l_u67_3_s (N m : Nat) (v78 : Int) (v79 : Int) (met : (List (Int × Int))) : l_u67_3 N (m + 1) (v78, v79, met) = cond (decide (v79 < v78))
  (cond (decide ((Option.getD (mget (.i .i64) met v79) (0 : Int)) = (0 : Int)))
    (some (.inr false))
    ((l_u67_3 N m (v78, ((IntKind.wrap .i64 (v79 + (1 : Int))), met)))))
  (some (.inl ())) := by kernel_rfl
theorem l_u67_2_s (N m : Nat) (last : Int) (v16 : (List (List Int))) (v17 : Int) (v18 : Int) (v55 : (List Int)) (v56 : Int) (v57 : Int) (f : Int) (f2 : (List (List Int))) (met : (List (Int × Int))) : l_u67_2 N (m + 1) (last, v16, v17, v18, v55, v56, v57, f, f2, met) = cond (decide (v57 < v56))
  (obind (nthI v55 v57) fun z1 =>
   cond (decide (z1 < f))
    (cond (decide ((0 : Int) < (Option.getD (mget (.i .i64) met z1) (0 : Int))))
      (some (.inr false))
      ((l_u67_2 N m (last, (v16, (v17, (v18, (v55, (v56, ((IntKind.wrap .i64 (v57 + (1 : Int))), (f, (f2, (mput (.i .i64) met z1 (IntKind.wrap .i64 ((Option.getD (mget (.i .i64) met z1) (0 : Int)) + (1 : Int))))))))))))))))
    ((l_u67_2 N m (last, (v16, (v17, (v18, (v55, (v56, ((IntKind.wrap .i64 (v57 + (1 : Int))), (f, (f2, (mput (.i .i64) met z1 (IntKind.wrap .i64 ((Option.getD (mget (.i .i64) met z1) (0 : Int)) + (1 : Int))))))))))))))))
  (some (.inl (last, (v16, (v17, (v18, (f, (f2, met)))))))) := by kernel_rfl
theorem l_u67_1_s (N m : Nat) (last : Int) (v16 : (List (List Int))) (v17 : Int) (v18 : Int) (f : Int) (f2 : (List (List Int))) (met : (List (Int × Int))) : l_u67_1 N (m + 1) (last, v16, v17, v18, f, f2, met) = cond (decide (v18 < v17))
  (obind (nthI v16 v18) fun z1 =>
   cond (decide ((((List.length z1) : Nat) : Int) = (0 : Int)))
    (some (.inr false))
    (obind (nthI z1 (0 : Int)) fun z2 =>
     cond (decide (z2 ≤ last))
      (some (.inr false))
      (obind (m_u62 N z1) fun z3 =>
       cond (!z3)
        (some (.inr false))
        (obind (m_u24 N z1) fun z4 =>
         obind (nthI z1 (0 : Int)) fun z5 =>
         cond (!(decide (z4 = z5)))
          (some (.inr false))
          (obind (m_u80 N (f, z1)) fun z6 =>
           cond (!z6)
            (some (.inr false))
            (obind (nthI z1 (0 : Int)) fun z7 =>
             obind (l_u67_2 N N (z7, (v16, (v17, (v18, (z1, ((((List.length z1) : Nat) : Int), ((0 : Int), (f, (f2, met)))))))))) fun z8 =>
             (match z8 with
             | .inl zy9 => (l_u67_1 N m (zy9.1, (zy9.2.1, (zy9.2.2.1, ((IntKind.wrap .i64 (zy9.2.2.2.1 + (1 : Int))), (zy9.2.2.2.2.1, (zy9.2.2.2.2.2.1, zy9.2.2.2.2.2.2)))))))
             | .inr zy10 => some (.inr zy10))))))))
  (some (.inl (f, (f2, met)))) := by kernel_rfl
theorem m_u67_eq (N : Nat) (f : Int) (f2 : (List (List Int))) : m_u67 (N + 1) (f, f2) = obind (m_u69 N f) fun z1 =>
 cond (!z1)
  (some false)
  (obind (l_u67_1 N N ((-(1 : Int)), (f2, ((((List.length f2) : Nat) : Int), ((0 : Int), (f, (f2, []))))))) fun z2 =>
   (match z2 with
   | .inl zy3 => obind (l_u67_3 N N (zy3.1, ((0 : Int), zy3.2.2))) fun z4 =>
     (match z4 with
     | .inl zy5 => some true
     | .inr zy6 => some zy6)
   | .inr zy7 => some zy7)) := by kernel_rfl
theorem c_u67_ok (N : Nat) : (c_u67 N).ok Try.prog := exF_ok (T := T) (CT := ct_u67) (N := N) (fun M => ⟨tOk, (ctAll_cons (c_u69_ok M) (ctAll_cons (c_u62_ok M) (ctAll_cons (c_u24_ok M) (ctAll_cons (c_u80_ok M) ctAll_nil)))), mixed, bwAll⟩) Try.func58 (by kernel_rfl) (by kernel_rfl) p_u67 _ _ [s0, s4] r_u67 false true [] (by kernel_rfl) (fun y => by kernel_rfl) (fun _ => ⟨rfl, rfl⟩) (fun y => by kernel_rfl) (m_u67 N) (fun x => by kernel_rfl)
def ct_u49 (N : Nat) : List Ctr := [c_u67 N]
def i_u49_1 : PS := ⟨[(2, .h s0), (9, .h s4), (10, .h s0), (11, .h s0)], [], [s0, s4, s0, s0]⟩
def o_u49_1 : List (Exit × PS) := [((.exit 0), ⟨[(2, .h s0)], [], [s0]⟩)]
def p_u49_1 : Pl := .z
def l_u49_1 (N : Nat) : Nat → Int × (List (List Int)) × Int × Int → Option (Int) := loopF (exC T (ct_u49 N) N (codeAt [1, 1, 0, 1, 0, 0] (bodyOf Try.f30))) 21 i_u49_1 o_u49_1 p_u49_1
def p_u49 : Pl := (.n .z (.n .z (.n (.n .z (.n (.loop i_u49_1 o_u49_1 p_u49_1) .z)) .z)))
def r_u49 : PS := ⟨[(2, .h s0)], [], [s0]⟩
def m_u49 (N : Nat) : Int × (List (List Int)) → Option (Int) := exF T ct_u49 N (bodyOf Try.f30) 21 p_u49 [.ag [.h s0, .h s4]] [] [s0, s4] r_u49
def c_u49 (N : Nat) : Ctr := ⟨30, [.ag [.h s0, .h s4]], [], [s0, s4], Tup r_u49.c, m_u49 N, fun y _ k => k (resG T (mkPS 21 r_u49 y) Try.f30.results.toList) (keepH' [] (mkPS 21 r_u49 y).h), false, true⟩
theorem l_u49_1_s (N m : Nat) (n : Int) (v9 : (List (List Int))) (v10 : Int) (v11 : Int) : l_u49_1 N (m + 1) (n, v9, v10, v11) = cond (decide (v11 < v10))
  (obind (nthI v9 v11) fun z1 =>
   (l_u49_1 N m ((IntKind.wrap .i64 (n + (((List.length z1) : Nat) : Int))), (v9, (v10, (IntKind.wrap .i64 (v11 + (1 : Int))))))))
  (some n) := by kernel_rfl
theorem m_u49_eq (N : Nat) (f : Int) (f2 : (List (List Int))) : m_u49 (N + 1) (f, f2) = obind (m_u67 N (f, f2)) fun z1 =>
 cond (!z1)
  (some (0 : Int))
  (obind (l_u49_1 N N ((0 : Int), (f2, ((((List.length f2) : Nat) : Int), (0 : Int))))) fun z2 =>
   some z2) := by kernel_rfl
theorem c_u49_ok (N : Nat) : (c_u49 N).ok Try.prog := exF_ok (T := T) (CT := ct_u49) (N := N) (fun M => ⟨tOk, (ctAll_cons (c_u67_ok M) ctAll_nil), mixed, bwAll⟩) Try.func30 (by kernel_rfl) (by kernel_rfl) p_u49 _ _ [s0, s4] r_u49 false true [] (by kernel_rfl) (fun y => by kernel_rfl) (fun _ => ⟨rfl, rfl⟩) (fun y => by kernel_rfl) (m_u49 N) (fun x => by kernel_rfl)
def ct_u82 (N : Nat) : List Ctr := []
def p_u82 : Pl := .z
def r_u82 : PS := ⟨[(4, .h .b)], [], [.b]⟩
def m_u82 (N : Nat) : Int × Int → Option (Bool) := exF T ct_u82 N (bodyOf Try.f85) 20 p_u82 [.h s0, .h s0] [] [s0, s0] r_u82
def c_u82 (N : Nat) : Ctr := ⟨85, [.h s0, .h s0], [], [s0, s0], Tup r_u82.c, m_u82 N, fun y _ k => k (resG T (mkPS 20 r_u82 y) Try.f85.results.toList) (keepH' [] (mkPS 20 r_u82 y).h), false, true⟩
theorem m_u82_eq (N : Nat) (n : Int) (v : Int) : m_u82 (N + 1) (n, v) = cond (decide ((1 : Int) ≤ n))
  (cond (decide (n ≤ (64 : Int)))
    (cond (decide ((0 : Int) ≤ v))
      (some (decide (v < n)))
      (some false))
    (some false))
  (some false) := by kernel_rfl
theorem c_u82_ok (N : Nat) : (c_u82 N).ok Try.prog := exF_ok (T := T) (CT := ct_u82) (N := N) (fun M => ⟨tOk, ctAll_nil, mixed, bwAll⟩) Try.func85 (by kernel_rfl) (by kernel_rfl) p_u82 _ _ [s0, s0] r_u82 false true [] (by kernel_rfl) (fun y => by kernel_rfl) (fun _ => ⟨rfl, rfl⟩) (fun y => by kernel_rfl) (m_u82 N) (fun x => by kernel_rfl)
def ct_u45 (N : Nat) : List Ctr := [c_u82 N]
def p_u45 : Pl := .z
def r_u45 : PS := ⟨[(4, .h s0), (5, .h s0), (6, .h .b), (7, .h .b)], [], [s0, s0, .b, .b]⟩
def m_u45 (N : Nat) : Int × Int → Option (Int × Int × Bool × Bool) := exF T ct_u45 N (bodyOf Try.f82) 49 p_u45 [.h s0, .h s0] [] [s0, s0] r_u45
def c_u45 (N : Nat) : Ctr := ⟨82, [.h s0, .h s0], [], [s0, s0], Tup r_u45.c, m_u45 N, fun y _ k => k (resG T (mkPS 49 r_u45 y) Try.f82.results.toList) (keepH' [] (mkPS 49 r_u45 y).h), false, true⟩
theorem m_u45_eq (N : Nat) (n : Int) (token : Int) : m_u45 (N + 1) (n, token) = obind (m_u82 N (n, token)) fun z1 =>
 cond z1
  (some (token, ((0 : Int), (false, true))))
  (cond (decide (n < (1 : Int)))
    (some ((0 : Int), ((0 : Int), (false, false))))
    (cond (decide ((64 : Int) < n))
      (some ((0 : Int), ((0 : Int), (false, false))))
      (cond (decide (token < n))
        (some ((0 : Int), ((0 : Int), (false, false))))
        (cond (decide ((IntKind.wrap .i64 (n + (IntKind.wrap .i64 (n * n)))) ≤ token))
          (some ((0 : Int), ((0 : Int), (false, false))))
          (obind (quoI (IntKind.wrap .i64 (token - n)) n) fun z2 =>
           obind (remI (IntKind.wrap .i64 (token - n)) n) fun z3 =>
           cond (decide ((IntKind.wrap .i64 z2) = z3))
            (some ((0 : Int), ((0 : Int), (false, false))))
            (some ((IntKind.wrap .i64 z2), (z3, (true, true))))))))) := by kernel_rfl
theorem c_u45_ok (N : Nat) : (c_u45 N).ok Try.prog := exF_ok (T := T) (CT := ct_u45) (N := N) (fun M => ⟨tOk, (ctAll_cons (c_u82_ok M) ctAll_nil), mixed, bwAll⟩) Try.func82 (by kernel_rfl) (by kernel_rfl) p_u45 _ _ [s0, s0] r_u45 false true [] (by kernel_rfl) (fun y => by kernel_rfl) (fun _ => ⟨rfl, rfl⟩) (fun y => by kernel_rfl) (m_u45 N) (fun x => by kernel_rfl)
def ct_u77 (N : Nat) : List Ctr := [c_u82 N]
def p_u77 : Pl := .z
def r_u77 : PS := ⟨[(6, .h s0)], [], [s0]⟩
def m_u77 (N : Nat) : Int × Int × Int → Option (Int) := exF T ct_u77 N (bodyOf Try.f83) 29 p_u77 [.h s0, .h s0, .h s0] [] [s0, s0, s0] r_u77
def c_u77 (N : Nat) : Ctr := ⟨83, [.h s0, .h s0, .h s0], [], [s0, s0, s0], Tup r_u77.c, m_u77 N, fun y _ k => k (resG T (mkPS 29 r_u77 y) Try.f83.results.toList) (keepH' [] (mkPS 29 r_u77 y).h), false, true⟩
theorem m_u77_eq (N : Nat) (n : Int) (u : Int) (v : Int) : m_u77 (N + 1) (n, u, v) = obind (m_u82 N (n, u)) fun z1 =>
 cond (!z1)
  (some (-(1 : Int)))
  (obind (m_u82 N (n, v)) fun z2 =>
   cond (!z2)
    (some (-(1 : Int)))
    (cond (decide (u = v))
      (some (-(1 : Int)))
      (some (IntKind.wrap .i64 ((IntKind.wrap .i64 (n + (IntKind.wrap .i64 (u * n)))) + v))))) := by kernel_rfl
theorem c_u77_ok (N : Nat) : (c_u77 N).ok Try.prog := exF_ok (T := T) (CT := ct_u77) (N := N) (fun M => ⟨tOk, (ctAll_cons (c_u82_ok M) ctAll_nil), mixed, bwAll⟩) Try.func83 (by kernel_rfl) (by kernel_rfl) p_u77 _ _ [s0, s0, s0] r_u77 false true [] (by kernel_rfl) (fun y => by kernel_rfl) (fun _ => ⟨rfl, rfl⟩) (fun y => by kernel_rfl) (m_u77 N) (fun x => by kernel_rfl)
def ct_u35 (N : Nat) : List Ctr := [c_u45 N]
def p_u35 : Pl := .z
def r_u35 : PS := ⟨[(6, .h .b)], [], [.b]⟩
def m_u35 (N : Nat) : Int × Int × Int → Option (Bool) := exF T ct_u35 N (bodyOf Try.f84) 37 p_u35 [.h s0, .h s0, .h s0] [] [s0, s0, s0] r_u35
def c_u35 (N : Nat) : Ctr := ⟨84, [.h s0, .h s0, .h s0], [], [s0, s0, s0], Tup r_u35.c, m_u35 N, fun y _ k => k (resG T (mkPS 37 r_u35 y) Try.f84.results.toList) (keepH' [] (mkPS 37 r_u35 y).h), false, true⟩
theorem m_u35_eq (N : Nat) (n : Int) (token : Int) (u : Int) : m_u35 (N + 1) (n, token, u) = obind (m_u45 N (n, token)) fun z1 =>
 cond z1.2.2.2
  (cond (!z1.2.2.1)
    (cond (decide (z1.1 = u))
      (some true)
      (cond z1.2.2.1
        (some (decide (z1.2.1 = u)))
        (some false)))
    (cond z1.2.2.1
      (some (decide (z1.2.1 = u)))
      (some false)))
  (some false) := by kernel_rfl
theorem c_u35_ok (N : Nat) : (c_u35 N).ok Try.prog := exF_ok (T := T) (CT := ct_u35) (N := N) (fun M => ⟨tOk, (ctAll_cons (c_u45_ok M) ctAll_nil), mixed, bwAll⟩) Try.func84 (by kernel_rfl) (by kernel_rfl) p_u35 _ _ [s0, s0, s0] r_u35 false true [] (by kernel_rfl) (fun y => by kernel_rfl) (fun _ => ⟨rfl, rfl⟩) (fun y => by kernel_rfl) (m_u35 N) (fun x => by kernel_rfl)
def ct_u61 (N : Nat) : List Ctr := [c_u45 N, c_u77 N, c_u35 N, c_u82 N]
def i_u61_3 : PS := ⟨[(0, .h s0), (1, .k (.ow 900)), (6, .h s0), (14, .k (.ow 901)), (15, .h s0)], [(900, .arr 3 s0 true), (901, .arr 3 s0 true)], [s0, s0, s0, s2, s2]⟩
def o_u61_3 : List (Exit × PS) := [((.exit 4), ⟨[(0, .h s0), (6, .h s0), (14, .k (.ow 900))], [(900, .arr 3 s0 true)], [s0, s0, s2]⟩)]
def p_u61_3 : Pl := .z
def l_u61_3 (N : Nat) : Nat → Int × Int × Int × (List Int) × (List Int) → Option (Int × Int × (List Int)) := loopF (exC T (ct_u61 N) N (codeAt [1, 1, 0, 0, 0, 1, 0, 1, 0, 1, 0, 0, 1, 0, 0, 1, 1, 1, 0, 1, 0, 1, 0, 0] (bodyOf Try.f59))) 129 i_u61_3 o_u61_3 p_u61_3
def i_u61_2 : PS := ⟨[(0, .h s0), (1, .k (.ow 900)), (5, .h .b), (6, .h s0)], [(900, .arr 3 s0 true)], [s0, .b, s0, s2]⟩
def o_u61_2 : List (Exit × PS) := [((.exit 2), ⟨[(0, .h s0), (1, .k (.ow 900)), (5, .h .b)], [(900, .arr 3 s0 true)], [s0, .b, s2]⟩)]
def p_u61_2 : Pl := (.n .z (.n (.n (.n .z (.n .z (.n .z (.n (.n .z (.n (.n .z (.n (.loop i_u61_3 o_u61_3 p_u61_3) .z)) .z)) .z)))) .z) .z))
def l_u61_2 (N : Nat) : Nat → Int × Bool × Int × (List Int) → Option (Int × Bool × (List Int)) := loopF (exC T (ct_u61 N) N (codeAt [1, 1, 0, 0, 0, 1, 0, 1, 0, 1, 0, 0] (bodyOf Try.f59))) 129 i_u61_2 o_u61_2 p_u61_2
def i_u61_1 : PS := ⟨[(0, .h s0), (1, .k (.ow 900))], [(900, .arr 3 s0 true)], [s0, s2]⟩
def o_u61_1 : List (Exit × PS) := [((.exit 0), ⟨[(0, .h s0), (1, .k (.ow 900))], [(900, .arr 3 s0 true)], [s0, s2]⟩), (.ret, ⟨[(4, .h .b)], [], [.b]⟩)]
def p_u61_1 : Pl := (.n .z (.n (.n .z (.n (.n .z (.n (.loop i_u61_2 o_u61_2 p_u61_2) .z)) .z)) .z))
def l_u61_1 (N : Nat) : Nat → Int × (List Int) → Option ((Int × (List Int)) ⊕ (Bool)) := loopF (exC T (ct_u61 N) N (codeAt [1, 1, 0, 0, 0] (bodyOf Try.f59))) 129 i_u61_1 o_u61_1 p_u61_1
def p_u61 : Pl := (.n .z (.n .z (.n (.n (.loop i_u61_1 o_u61_1 p_u61_1) .z) .z)))
def r_u61 : PS := ⟨[(4, .h .b)], [], [.b]⟩
def m_u61 (N : Nat) : Int × (List Int) → Option (Bool) := exF T ct_u61 N (bodyOf Try.f59) 129 p_u61 [.h s0, .h s2] [] [s0, s2] r_u61
def c_u61 (N : Nat) : Ctr := ⟨59, [.h s0, .h s2], [], [s0, s2], Tup r_u61.c, m_u61 N, fun y _ k => k (resG T (mkPS 129 r_u61 y) Try.f59.results.toList) (keepH' [] (mkPS 129 r_u61 y).h), false, true⟩
theorem l_u61_3_s (N m : Nat) (n : Int) (i : Int) (k : Int) (l : (List Int)) (v14 : (List Int)) : l_u61_3 N (m + 1) (n, i, k, l, v14) = cond (decide (k < (((List.length l) : Nat) : Int)))
  (obind (remI (IntKind.wrap .i64 (i + k)) (((List.length l) : Nat) : Int)) fun z1 =>
   obind (nthI l z1) fun z2 =>
   obind (nthI l z1) fun z3 =>
   obind (appI (8 : Nat) v14 [z3]) fun z4 =>
   (l_u61_3 N m (n, (i, ((IntKind.wrap .i64 (k + (1 : Int))), (l, z4))))))
  (some (n, (i, v14))) := by kernel_rfl
theorem l_u61_2_s (N m : Nat) (n : Int) (found : Bool) (i : Int) (l : (List Int)) : l_u61_2 N (m + 1) (n, found, i, l) = cond (decide (i < (((List.length l) : Nat) : Int)))
  (cond (!found)
    (obind (nthI l i) fun z1 =>
     obind (nthI l i) fun z2 =>
     obind (remI (IntKind.wrap .i64 (i + (1 : Int))) (((List.length l) : Nat) : Int)) fun z3 =>
     obind (nthI l z3) fun z4 =>
     obind (nthI l z3) fun z5 =>
     obind (remI (IntKind.wrap .i64 (i + (2 : Int))) (((List.length l) : Nat) : Int)) fun z6 =>
     obind (nthI l z6) fun z7 =>
     obind (nthI l z6) fun z8 =>
     obind (m_u45 N (n, z2)) fun z9 =>
     cond (decide ((4 : Int) ≤ (((List.length l) : Nat) : Int)))
      (cond z9.2.2.2
        (cond z9.2.2.1
          (cond (decide (z5 = z9.2.1))
            (obind (m_u77 N (n, (z9.2.1, z9.1))) fun z10 =>
             cond (decide (z8 = z10))
              (obind (remI (IntKind.wrap .i64 ((IntKind.wrap .i64 (i + (((List.length l) : Nat) : Int))) - (1 : Int))) (((List.length l) : Nat) : Int)) fun z11 =>
               obind (nthI l z11) fun z12 =>
               obind (nthI l z11) fun z13 =>
               obind (m_u35 N (n, (z13, z9.1))) fun z14 =>
               cond z14
                (obind (l_u61_3 N N (n, (i, ((3 : Int), (l, []))))) fun z15 =>
                 (l_u61_2 N m (z15.1, (true, ((IntKind.wrap .i64 (z15.2.1 + (1 : Int))), z15.2.2)))))
                ((l_u61_2 N m (n, (found, ((IntKind.wrap .i64 (i + (1 : Int))), l))))))
              ((l_u61_2 N m (n, (found, ((IntKind.wrap .i64 (i + (1 : Int))), l))))))
            ((l_u61_2 N m (n, (found, ((IntKind.wrap .i64 (i + (1 : Int))), l))))))
          ((l_u61_2 N m (n, (found, ((IntKind.wrap .i64 (i + (1 : Int))), l))))))
        ((l_u61_2 N m (n, (found, ((IntKind.wrap .i64 (i + (1 : Int))), l))))))
      ((l_u61_2 N m (n, (found, ((IntKind.wrap .i64 (i + (1 : Int))), l))))))
    (some (n, (found, l))))
  (some (n, (found, l))) := by kernel_rfl
theorem l_u61_1_s (N m : Nat) (n : Int) (l : (List Int)) : l_u61_1 N (m + 1) (n, l) = cond (decide ((1 : Int) < (((List.length l) : Nat) : Int)))
  (obind (l_u61_2 N N (n, (false, ((0 : Int), l)))) fun z1 =>
   cond (!z1.2.1)
    (some (.inr false))
    ((l_u61_1 N m (z1.1, z1.2.2))))
  (some (.inl (n, l))) := by kernel_rfl
theorem m_u61_eq (N : Nat) (n : Int) (l : (List Int)) : m_u61 (N + 1) (n, l) = obind (appI (8 : Nat) [] l) fun z1 =>
 obind (l_u61_1 N N (n, z1)) fun z2 =>
 (match z2 with
 | .inl zy3 => cond (decide ((((List.length zy3.2) : Nat) : Int) = (1 : Int)))
    (obind (nthI zy3.2 (0 : Int)) fun z4 =>
     obind (nthI zy3.2 (0 : Int)) fun z5 =>
     obind (m_u82 N (zy3.1, z5)) fun z6 =>
     some z6)
    (some false)
 | .inr zy7 => some zy7) := by kernel_rfl
theorem c_u61_ok (N : Nat) : (c_u61 N).ok Try.prog := exF_ok (T := T) (CT := ct_u61) (N := N) (fun M => ⟨tOk, (ctAll_cons (c_u45_ok M) (ctAll_cons (c_u77_ok M) (ctAll_cons (c_u35_ok M) (ctAll_cons (c_u82_ok M) ctAll_nil)))), mixed, bwAll⟩) Try.func59 (by kernel_rfl) (by kernel_rfl) p_u61 _ _ [s0, s2] r_u61 false true [] (by kernel_rfl) (fun y => by kernel_rfl) (fun _ => ⟨rfl, rfl⟩) (fun y => by kernel_rfl) (m_u61 N) (fun x => by kernel_rfl)
def ct_u58 (N : Nat) : List Ctr := [c_u38 N, c_u40 N]
def p_u58 : Pl := .z
def r_u58 : PS := ⟨[(4, .k (.ow 900)), (5, .h .b)], [(900, .arr 3 s0 true)], [.b, s2]⟩
def m_u58 (N : Nat) : (List Int) × Int → Option (Bool × (List Int)) := exF T ct_u58 N (bodyOf Try.f86) 26 p_u58 [.h s2, .h s0] [] [s2, s0] r_u58
def c_u58 (N : Nat) : Ctr := ⟨86, [.h s2, .h s0], [], [s2, s0], Tup r_u58.c, m_u58 N, fun y _ k => k (resG T (mkPS 26 r_u58 y) Try.f86.results.toList) (keepH' [900] (mkPS 26 r_u58 y).h), true, true⟩
theorem m_u58_eq (N : Nat) (l : (List Int)) (token : Int) : m_u58 (N + 1) (l, token) = obind (m_u38 N (l, token)) fun z1 =>
 obind (m_u40 N l) fun z2 =>
 cond (!z2)
  (some (false, []))
  (cond (decide (z1 < (0 : Int)))
    (some (false, []))
    (obind (subI l z1 (((List.length l) : Nat) : Int)) fun z3 =>
     obind (appI (8 : Nat) [] z3) fun z4 =>
     obind (subI l (0 : Int) z1) fun z5 =>
     obind (appI (8 : Nat) z4 z5) fun z6 =>
     some (true, z6))) := by kernel_rfl
theorem c_u58_ok (N : Nat) : (c_u58 N).ok Try.prog := exF_ok (T := T) (CT := ct_u58) (N := N) (fun M => ⟨tOk, (ctAll_cons (c_u38_ok M) (ctAll_cons (c_u40_ok M) ctAll_nil)), mixed, bwAll⟩) Try.func86 (by kernel_rfl) (by kernel_rfl) p_u58 _ _ [s2, s0] r_u58 true true [900] (by kernel_rfl) (fun y => by kernel_rfl) (fun h => by cases h) (fun y => by kernel_rfl) (m_u58 N) (fun x => by kernel_rfl)
def ct_u39 (N : Nat) : List Ctr := [c_u40 N, c_u58 N]
def i_u39_1 : PS := ⟨[(0, .h s2), (3, .h s0), (4, .h s0)], [], [s2, s0, s0]⟩
def o_u39_1 : List (Exit × PS) := [((.exit 0), ⟨[(0, .h s2), (3, .h s0)], [], [s2, s0]⟩)]
def p_u39_1 : Pl := .z
def l_u39_1 (N : Nat) : Nat → (List Int) × Int × Int → Option ((List Int) × Int) := loopF (exC T (ct_u39 N) N (codeAt [1, 1, 1, 0, 1, 0, 0] (bodyOf Try.f60))) 37 i_u39_1 o_u39_1 p_u39_1
def p_u39 : Pl := (.n .z (.n .z (.n .z (.n (.n .z (.n (.loop i_u39_1 o_u39_1 p_u39_1) .z)) .z))))
def r_u39 : PS := ⟨[(2, .k (.ow 900))], [(900, .arr 3 s0 true)], [s2]⟩
def m_u39 (N : Nat) : (List Int) → Option ((List Int)) := exF T ct_u39 N (bodyOf Try.f60) 37 p_u39 [.h s2] [] [s2] r_u39
def c_u39 (N : Nat) : Ctr := ⟨60, [.h s2], [], [s2], Tup r_u39.c, m_u39 N, fun y _ k => k (resG T (mkPS 37 r_u39 y) Try.f60.results.toList) (keepH' [900] (mkPS 37 r_u39 y).h), true, true⟩
theorem l_u39_1_s (N m : Nat) (l : (List Int)) (least : Int) (i : Int) : l_u39_1 N (m + 1) (l, least, i) = cond (decide (i < (((List.length l) : Nat) : Int)))
  (obind (nthI l i) fun z1 =>
   (l_u39_1 N m (l, ((if (z1 < least) then z1 else least), (IntKind.wrap .i64 (i + (1 : Int)))))))
  (some (l, least)) := by kernel_rfl
theorem m_u39_eq (N : Nat) (l : (List Int)) : m_u39 (N + 1) (l) = obind (m_u40 N l) fun z1 =>
 cond (!z1)
  (some [])
  (cond (decide ((((List.length l) : Nat) : Int) = (0 : Int)))
    (some [])
    (obind (nthI l (0 : Int)) fun z2 =>
     obind (l_u39_1 N N (l, (z2, (0 : Int)))) fun z3 =>
     obind (m_u58 N (z3.1, z3.2)) fun z4 =>
     some z4.2)) := by kernel_rfl
theorem c_u39_ok (N : Nat) : (c_u39 N).ok Try.prog := exF_ok (T := T) (CT := ct_u39) (N := N) (fun M => ⟨tOk, (ctAll_cons (c_u40_ok M) (ctAll_cons (c_u58_ok M) ctAll_nil)), mixed, bwAll⟩) Try.func60 (by kernel_rfl) (by kernel_rfl) p_u39 _ _ [s2] r_u39 true true [900] (by kernel_rfl) (fun y => by kernel_rfl) (fun h => by cases h) (fun y => by kernel_rfl) (m_u39 N) (fun x => by kernel_rfl)
def ct_u44 (N : Nat) : List Ctr := [c_u40 N, c_u61 N, c_u39 N, c_u42 N]
def i_u44_2 : PS := ⟨[(1, .k (.pt 900 0)), (3, .k (.ow 901)), (4, .h s0), (5, .h s0), (6, .h s0), (7, .h s2), (8, .h s0)], [(900, .box 63 [.h s0, .h s4]), (901, .arr 4 .b true)], [s0, s0, s0, s2, s0, s0, s4, (.sl .b)]⟩
def o_u44_2 : List (Exit × PS) := [((.exit 2), ⟨[(1, .k (.pt 900 0)), (3, .k (.ow 901)), (4, .h s0), (5, .h s0), (6, .h s0)], [(900, .box 63 [.h s0, .h s4]), (901, .arr 4 .b true)], [s0, s0, s0, s0, s4, (.sl .b)]⟩), (.ret, ⟨[(2, .h .b)], [], [.b]⟩)]
def p_u44_2 : Pl := .z
def l_u44_2 (N : Nat) : Nat → Int × Int × Int × (List Int) × Int × Int × (List (List Int)) × (List Bool) → Option ((Int × Int × Int × Int × (List (List Int)) × (List Bool)) ⊕ (Bool)) := loopF (exC T (ct_u44 N) N (codeAt [1, 1, 1, 1, 1, 0, 1, 0, 0, 1, 0, 0, 1, 1, 1, 1, 0, 0] (bodyOf Try.f31))) 106 i_u44_2 o_u44_2 p_u44_2
def i_u44_1 : PS := ⟨[(1, .k (.pt 900 0)), (3, .k (.ow 901)), (4, .h s0), (5, .h s0), (6, .h s0)], [(900, .box 63 [.h s0, .h s4]), (901, .arr 4 .b true)], [s0, s0, s0, s0, s4, (.sl .b)]⟩
def o_u44_1 : List (Exit × PS) := [((.exit 0), ⟨[(1, .k (.pt 900 0)), (5, .h s0)], [(900, .box 63 [.h s0, .h s4])], [s0, s0, s4]⟩), (.ret, ⟨[(2, .h .b)], [], [.b]⟩)]
def p_u44_1 : Pl := (.n .z (.n (.n (.n .z (.n .z (.n .z (.n .z (.n (.loop i_u44_2 o_u44_2 p_u44_2) .z))))) .z) .z))
def l_u44_1 (N : Nat) : Nat → Int × Int × Int × Int × (List (List Int)) × (List Bool) → Option ((Int × Int × (List (List Int))) ⊕ (Bool)) := loopF (exC T (ct_u44 N) N (codeAt [1, 1, 1, 1, 1, 0, 1, 0, 0] (bodyOf Try.f31))) 106 i_u44_1 o_u44_1 p_u44_1
def p_u44 : Pl := (.n .z (.n .z (.n .z (.n .z (.n .z (.n (.n .z (.n (.loop i_u44_1 o_u44_1 p_u44_1) .z)) .z))))))
def r_u44 : PS := ⟨[(2, .h .b)], [], [.b]⟩
def m_u44 (N : Nat) : Int × (List (List Int)) → Option (Bool) := exF T ct_u44 N (bodyOf Try.f31) 106 p_u44 [.ag [.h s0, .h s4]] [] [s0, s4] r_u44
def c_u44 (N : Nat) : Ctr := ⟨31, [.ag [.h s0, .h s4]], [], [s0, s4], Tup r_u44.c, m_u44 N, fun y _ k => k (resG T (mkPS 106 r_u44 y) Try.f31.results.toList) (keepH' [] (mkPS 106 r_u44 y).h), false, true⟩
theorem l_u44_2_s (N m : Nat) (last : Int) (all : Int) (i : Int) (l : (List Int)) (k : Int) (f : Int) (f2 : (List (List Int))) (met : (List Bool)) : l_u44_2 N (m + 1) (last, all, i, l, k, f, f2, met) = cond (decide (k < (((List.length l) : Nat) : Int)))
  (obind (nthI l k) fun z1 =>
   cond (decide (z1 < f))
    (obind (nthI l k) fun z2 =>
     obind (nthI met z2) fun z3 =>
     obind (nthI met z2) fun z4 =>
     cond z4
      (some (.inr false))
      (obind (nthI l k) fun z5 =>
       obind (nthI met z5) fun z6 =>
       obind (nthI met z5) fun z7 =>
       (l_u44_2 N m (last, ((IntKind.wrap .i64 (all + (1 : Int))), (i, (l, ((IntKind.wrap .i64 (k + (1 : Int))), (f, (f2, (List.set met (Int.toNat z5) true)))))))))))
    ((l_u44_2 N m (last, (all, (i, (l, ((IntKind.wrap .i64 (k + (1 : Int))), (f, (f2, met))))))))))
  (some (.inl (last, (all, (i, (f, (f2, met))))))) := by kernel_rfl
theorem l_u44_1_s (N m : Nat) (last : Int) (all : Int) (i : Int) (f : Int) (f2 : (List (List Int))) (met : (List Bool)) : l_u44_1 N (m + 1) (last, all, i, f, f2, met) = cond (decide (i < (((List.length f2) : Nat) : Int)))
  (obind (nthI f2 i) fun z1 =>
   obind (m_u40 N z1) fun z2 =>
   cond (!z2)
    (some (.inr false))
    (cond (decide ((((List.length z1) : Nat) : Int) = (0 : Int)))
      (some (.inr false))
      (obind (m_u61 N (f, z1)) fun z3 =>
       cond (!z3)
        (some (.inr false))
        (obind (m_u39 N z1) fun z4 =>
         obind (m_u42 N ([z4], [z1])) fun z5 =>
         cond (!z5)
          (some (.inr false))
          (obind (nthI z1 (0 : Int)) fun z6 =>
           cond (decide (z6 ≤ last))
            (some (.inr false))
            (obind (nthI z1 (0 : Int)) fun z7 =>
             obind (l_u44_2 N N (z7, (all, (i, (z1, ((0 : Int), (f, (f2, met)))))))) fun z8 =>
             (match z8 with
             | .inl zy9 => (l_u44_1 N m (zy9.1, (zy9.2.1, ((IntKind.wrap .i64 (zy9.2.2.1 + (1 : Int))), (zy9.2.2.2.1, (zy9.2.2.2.2.1, zy9.2.2.2.2.2))))))
             | .inr zy10 => some (.inr zy10))))))))
  (some (.inl (all, (f, f2)))) := by kernel_rfl
theorem m_u44_eq (N : Nat) (f : Int) (f2 : (List (List Int))) : m_u44 (N + 1) (f, f2) = cond (decide (f < (1 : Int)))
  (some false)
  (cond (decide ((64 : Int) < f))
    (some false)
    (cond (decide (f < (((List.length f2) : Nat) : Int)))
      (some false)
      (obind (makI f (1 : Nat)) fun z1 =>
       obind (l_u44_1 N N ((-(1 : Int)), ((0 : Int), ((0 : Int), (f, (f2, (List.replicate z1 false))))))) fun z2 =>
       (match z2 with
       | .inl zy3 => some (decide (zy3.1 = zy3.2.1))
       | .inr zy4 => some zy4)))) := by kernel_rfl
theorem c_u44_ok (N : Nat) : (c_u44 N).ok Try.prog := exF_ok (T := T) (CT := ct_u44) (N := N) (fun M => ⟨tOk, (ctAll_cons (c_u40_ok M) (ctAll_cons (c_u61_ok M) (ctAll_cons (c_u39_ok M) (ctAll_cons (c_u42_ok M) ctAll_nil)))), mixed, bwAll⟩) Try.func31 (by kernel_rfl) (by kernel_rfl) p_u44 _ _ [s0, s4] r_u44 false true [] (by kernel_rfl) (fun y => by kernel_rfl) (fun _ => ⟨rfl, rfl⟩) (fun y => by kernel_rfl) (m_u44 N) (fun x => by kernel_rfl)
def ct_u81 (N : Nat) : List Ctr := []
def p_u81 : Pl := .z
def r_u81 : PS := ⟨[(4, .h s1)], [], [s1]⟩
def m_u81 (N : Nat) : (List Int) × Int → Option (Int) := exF T ct_u81 N (bodyOf Try.f62) 19 p_u81 [.h s3, .h s0] [] [s3, s0] r_u81
def c_u81 (N : Nat) : Ctr := ⟨62, [.h s3, .h s0], [], [s3, s0], Tup r_u81.c, m_u81 N, fun y _ k => k (resG T (mkPS 19 r_u81 y) Try.f62.results.toList) (keepH' [] (mkPS 19 r_u81 y).h), false, true⟩
theorem m_u81_eq (N : Nat) (script : (List Int)) (i : Int) : m_u81 (N + 1) (script, i) = cond (decide (i < (0 : Int)))
  (some (0 : Int))
  (cond (decide ((((List.length script) : Nat) : Int) = (0 : Int)))
    (some (0 : Int))
    (obind (remI i (((List.length script) : Nat) : Int)) fun z1 =>
     obind (nthI script z1) fun z2 =>
     some z2)) := by kernel_rfl
theorem c_u81_ok (N : Nat) : (c_u81 N).ok Try.prog := exF_ok (T := T) (CT := ct_u81) (N := N) (fun M => ⟨tOk, ctAll_nil, mixed, bwAll⟩) Try.func62 (by kernel_rfl) (by kernel_rfl) p_u81 _ _ [s3, s0] r_u81 false true [] (by kernel_rfl) (fun y => by kernel_rfl) (fun _ => ⟨rfl, rfl⟩) (fun y => by kernel_rfl) (m_u81 N) (fun x => by kernel_rfl)
def ct_u76 (N : Nat) : List Ctr := []
def p_u76 : Pl := .z
def r_u76 : PS := ⟨[(4, .h s1)], [], [s1]⟩
def m_u76 (N : Nat) : Int × Int → Option (Int) := exF T ct_u76 N (bodyOf Try.f87) 16 p_u76 [.h s1, .h s0] [] [s1, s0] r_u76
def c_u76 (N : Nat) : Ctr := ⟨87, [.h s1, .h s0], [], [s1, s0], Tup r_u76.c, m_u76 N, fun y _ k => k (resG T (mkPS 16 r_u76 y) Try.f87.results.toList) (keepH' [] (mkPS 16 r_u76 y).h), false, true⟩
theorem m_u76_eq (N : Nat) (word : Int) (i : Int) : m_u76 (N + 1) (word, i) = cond (decide (i < (0 : Int)))
  (some (0 : Int))
  (cond (decide ((31 : Int) < i))
    (some (0 : Int))
    (obind (shrI .u32 word (IntKind.wrap .u64 i)) fun z1 =>
     some (bitI .and .u32 z1 (1 : Int)))) := by kernel_rfl
theorem c_u76_ok (N : Nat) : (c_u76 N).ok Try.prog := exF_ok (T := T) (CT := ct_u76) (N := N) (fun M => ⟨tOk, ctAll_nil, mixed, bwAll⟩) Try.func87 (by kernel_rfl) (by kernel_rfl) p_u76 _ _ [s1, s0] r_u76 false true [] (by kernel_rfl) (fun y => by kernel_rfl) (fun _ => ⟨rfl, rfl⟩) (fun y => by kernel_rfl) (m_u76 N) (fun x => by kernel_rfl)
def ct_u34 (N : Nat) : List Ctr := [c_u76 N]
def i_u34_1 : PS := ⟨[(0, .h s1), (3, .h s0)], [], [s1, s0]⟩
def o_u34_1 : List (Exit × PS) := [((.exit 0), ⟨[(3, .h s0)], [], [s0]⟩)]
def p_u34_1 : Pl := .z
def l_u34_1 (N : Nat) : Nat → Int × Int → Option (Int) := loopF (exC T (ct_u34 N) N (codeAt [1, 1, 0, 0, 0] (bodyOf Try.f61))) 16 i_u34_1 o_u34_1 p_u34_1
def p_u34 : Pl := (.n .z (.n .z (.n (.n (.loop i_u34_1 o_u34_1 p_u34_1) .z) .z)))
def r_u34 : PS := ⟨[(2, .h s0)], [], [s0]⟩
def m_u34 (N : Nat) : Int → Option (Int) := exF T ct_u34 N (bodyOf Try.f61) 16 p_u34 [.h s1] [] [s1] r_u34
def c_u34 (N : Nat) : Ctr := ⟨61, [.h s1], [], [s1], Tup r_u34.c, m_u34 N, fun y _ k => k (resG T (mkPS 16 r_u34 y) Try.f61.results.toList) (keepH' [] (mkPS 16 r_u34 y).h), false, true⟩
theorem l_u34_1_s (N m : Nat) (word : Int) (n : Int) : l_u34_1 N (m + 1) (word, n) = cond (decide (n < (8 : Int)))
  (obind (m_u76 N (word, (IntKind.wrap .i64 (n - (1 : Int))))) fun z1 =>
   cond (decide (z1 = (0 : Int)))
    ((l_u34_1 N m (word, (IntKind.wrap .i64 (n + (1 : Int))))))
    (some n))
  (some n) := by kernel_rfl
theorem m_u34_eq (N : Nat) (word : Int) : m_u34 (N + 1) (word) = obind (l_u34_1 N N (word, (1 : Int))) fun z1 =>
 some z1 := by kernel_rfl
theorem c_u34_ok (N : Nat) : (c_u34 N).ok Try.prog := exF_ok (T := T) (CT := ct_u34) (N := N) (fun M => ⟨tOk, (ctAll_cons (c_u76_ok M) ctAll_nil), mixed, bwAll⟩) Try.func61 (by kernel_rfl) (by kernel_rfl) p_u34 _ _ [s1] r_u34 false true [] (by kernel_rfl) (fun y => by kernel_rfl) (fun _ => ⟨rfl, rfl⟩) (fun y => by kernel_rfl) (m_u34 N) (fun x => by kernel_rfl)
def ct_u29 (N : Nat) : List Ctr := [c_u81 N, c_u34 N]
def i_u29_1 : PS := ⟨[(0, .h s2), (1, .h s3), (5, .k (.ow 900)), (6, .h s0)], [(900, .arr 3 s0 true)], [s2, s3, s0, s2]⟩
def o_u29_1 : List (Exit × PS) := [((.exit 0), ⟨[(5, .k (.ow 900))], [(900, .arr 3 s0 true)], [s2]⟩)]
def p_u29_1 : Pl := .z
def l_u29_1 (N : Nat) : Nat → (List Int) × (List Int) × Int × (List Int) → Option ((List Int)) := loopF (exC T (ct_u29 N) N (codeAt [1, 1, 0, 1, 0, 0] (bodyOf Try.f32))) 31 i_u29_1 o_u29_1 p_u29_1
def p_u29 : Pl := (.n .z (.n .z (.n (.n .z (.n (.loop i_u29_1 o_u29_1 p_u29_1) .z)) .z)))
def r_u29 : PS := ⟨[(4, .k (.ow 900))], [(900, .arr 3 s0 true)], [s2]⟩
def m_u29 (N : Nat) : (List Int) × (List Int) → Option ((List Int)) := exF T ct_u29 N (bodyOf Try.f32) 31 p_u29 [.h s2, .h s3] [] [s2, s3] r_u29
def c_u29 (N : Nat) : Ctr := ⟨32, [.h s2, .h s3], [], [s2, s3], Tup r_u29.c, m_u29 N, fun y _ k => k (resG T (mkPS 31 r_u29 y) Try.f32.results.toList) (keepH' [900] (mkPS 31 r_u29 y).h), true, true⟩
theorem l_u29_1_s (N m : Nat) (tokens : (List Int)) (script : (List Int)) (i : Int) (out : (List Int)) : l_u29_1 N (m + 1) (tokens, script, i, out) = cond (decide (i < (((List.length tokens) : Nat) : Int)))
  (obind (nthI tokens i) fun z1 =>
   cond (decide ((0 : Int) ≤ z1))
    (obind (nthI tokens i) fun z2 =>
     obind (m_u81 N (script, z2)) fun z3 =>
     obind (m_u34 N z3) fun z4 =>
     obind (appI (8 : Nat) out [z4]) fun z5 =>
     (l_u29_1 N m (tokens, (script, ((IntKind.wrap .i64 (i + (1 : Int))), z5)))))
    (obind (appI (8 : Nat) out [(1 : Int)]) fun z6 =>
     (l_u29_1 N m (tokens, (script, ((IntKind.wrap .i64 (i + (1 : Int))), z6))))))
  (some out) := by kernel_rfl
theorem m_u29_eq (N : Nat) (tokens : (List Int)) (script : (List Int)) : m_u29 (N + 1) (tokens, script) = obind (l_u29_1 N N (tokens, (script, ((0 : Int), [])))) fun z1 =>
 some z1 := by kernel_rfl
theorem c_u29_ok (N : Nat) : (c_u29 N).ok Try.prog := exF_ok (T := T) (CT := ct_u29) (N := N) (fun M => ⟨tOk, (ctAll_cons (c_u81_ok M) (ctAll_cons (c_u34_ok M) ctAll_nil)), mixed, bwAll⟩) Try.func32 (by kernel_rfl) (by kernel_rfl) p_u29 _ _ [s2, s3] r_u29 true true [900] (by kernel_rfl) (fun y => by kernel_rfl) (fun h => by cases h) (fun y => by kernel_rfl) (m_u29 N) (fun x => by kernel_rfl)
def ct_u48 (N : Nat) : List Ctr := [c_u44 N]
def i_u48_1 : PS := ⟨[(1, .h s6), (2, .k (.pt 900 0)), (5, .h s0)], [(900, .box 63 [.h s0, .h s4])], [s6, s0, s0, s4]⟩
def o_u48_1 : List (Exit × PS) := [((.exit 0), ⟨[], [], []⟩), (.ret, ⟨[(4, .h s0)], [], [s0]⟩)]
def p_u48_1 : Pl := .z
def l_u48_1 (N : Nat) : Nat → (List (Int × Int)) × Int × Int × (List (List Int)) → Option ((Unit) ⊕ (Int)) := loopF (exC T (ct_u48 N) N (codeAt [1, 1, 0, 1, 0, 0] (bodyOf Try.f63))) 49 i_u48_1 o_u48_1 p_u48_1
def p_u48 : Pl := (.n .z (.n .z (.n (.n .z (.n (.loop i_u48_1 o_u48_1 p_u48_1) .z)) .z)))
def r_u48 : PS := ⟨[(4, .h s0)], [], [s0]⟩
def m_u48 (N : Nat) : Int × (List (List Int)) × (List (Int × Int)) → Option (Int) := exF T ct_u48 N (bodyOf Try.f63) 49 p_u48 [.ag [.h s0, .h s4], .h s6] [] [s0, s4, s6] r_u48
def c_u48 (N : Nat) : Ctr := ⟨63, [.ag [.h s0, .h s4], .h s6], [], [s0, s4, s6], Tup r_u48.c, m_u48 N, fun y _ k => k (resG T (mkPS 49 r_u48 y) Try.f63.results.toList) (keepH' [] (mkPS 49 r_u48 y).h), false, true⟩
theorem l_u48_1_s (N m : Nat) (l : (List (Int × Int))) (i : Int) (f : Int) (f2 : (List (List Int))) : l_u48_1 N (m + 1) (l, i, f, f2) = cond (decide (i < (((List.length l) : Nat) : Int)))
  (obind (nthI l i) fun z1 =>
   cond (decide (z1.1 < (0 : Int)))
    (some (.inr (10 : Int)))
    (obind (nthI l i) fun z2 =>
     cond (decide (f ≤ z2.1))
      (some (.inr (10 : Int)))
      (obind (nthI l i) fun z3 =>
       cond (decide (z3.2 < (0 : Int)))
        (some (.inr (10 : Int)))
        (obind (nthI l i) fun z4 =>
         cond (decide (f ≤ z4.2))
          (some (.inr (10 : Int)))
          ((l_u48_1 N m (l, ((IntKind.wrap .i64 (i + (1 : Int))), (f, f2)))))))))
  (some (.inl ())) := by kernel_rfl
theorem m_u48_eq (N : Nat) (f : Int) (f2 : (List (List Int))) (l : (List (Int × Int))) : m_u48 (N + 1) (f, f2, l) = obind (m_u44 N (f, f2)) fun z1 =>
 cond (!z1)
  (some (1 : Int))
  (obind (l_u48_1 N N (l, ((0 : Int), (f, f2)))) fun z2 =>
   (match z2 with
   | .inl zy3 => some (0 : Int)
   | .inr zy4 => some zy4)) := by kernel_rfl
theorem c_u48_ok (N : Nat) : (c_u48 N).ok Try.prog := exF_ok (T := T) (CT := ct_u48) (N := N) (fun M => ⟨tOk, (ctAll_cons (c_u44_ok M) ctAll_nil), mixed, bwAll⟩) Try.func63 (by kernel_rfl) (by kernel_rfl) p_u48 _ _ [s0, s4, s6] r_u48 false true [] (by kernel_rfl) (fun y => by kernel_rfl) (fun _ => ⟨rfl, rfl⟩) (fun y => by kernel_rfl) (m_u48 N) (fun x => by kernel_rfl)
def ct_u46 (N : Nat) : List Ctr := [c_u38 N]
def i_u46_1 : PS := ⟨[(1, .h s0), (2, .k (.pt 900 0)), (5, .h s0)], [(900, .box 63 [.h s0, .h s4])], [s0, s0, s0, s4]⟩
def o_u46_1 : List (Exit × PS) := [((.exit 0), ⟨[], [], []⟩), (.ret, ⟨[(4, .h s0)], [], [s0]⟩)]
def p_u46_1 : Pl := .z
def l_u46_1 (N : Nat) : Nat → Int × Int × Int × (List (List Int)) → Option ((Unit) ⊕ (Int)) := loopF (exC T (ct_u46 N) N (codeAt [1, 0, 1, 0, 0] (bodyOf Try.f88))) 22 i_u46_1 o_u46_1 p_u46_1
def p_u46 : Pl := (.n .z (.n (.n .z (.n (.loop i_u46_1 o_u46_1 p_u46_1) .z)) .z))
def r_u46 : PS := ⟨[(4, .h s0)], [], [s0]⟩
def m_u46 (N : Nat) : Int × (List (List Int)) × Int → Option (Int) := exF T ct_u46 N (bodyOf Try.f88) 22 p_u46 [.ag [.h s0, .h s4], .h s0] [] [s0, s4, s0] r_u46
def c_u46 (N : Nat) : Ctr := ⟨88, [.ag [.h s0, .h s4], .h s0], [], [s0, s4, s0], Tup r_u46.c, m_u46 N, fun y _ k => k (resG T (mkPS 22 r_u46 y) Try.f88.results.toList) (keepH' [] (mkPS 22 r_u46 y).h), false, true⟩
theorem l_u46_1_s (N m : Nat) (v : Int) (i : Int) (f : Int) (f2 : (List (List Int))) : l_u46_1 N (m + 1) (v, i, f, f2) = cond (decide (i < (((List.length f2) : Nat) : Int)))
  (obind (nthI f2 i) fun z1 =>
   obind (m_u38 N (z1, v)) fun z2 =>
   cond (decide ((0 : Int) ≤ z2))
    (some (.inr i))
    ((l_u46_1 N m (v, ((IntKind.wrap .i64 (i + (1 : Int))), (f, f2))))))
  (some (.inl ())) := by kernel_rfl
theorem m_u46_eq (N : Nat) (f : Int) (f2 : (List (List Int))) (v : Int) : m_u46 (N + 1) (f, f2, v) = obind (l_u46_1 N N (v, ((0 : Int), (f, f2)))) fun z1 =>
 (match z1 with
 | .inl zy2 => some (-(1 : Int))
 | .inr zy3 => some zy3) := by kernel_rfl
theorem c_u46_ok (N : Nat) : (c_u46 N).ok Try.prog := exF_ok (T := T) (CT := ct_u46) (N := N) (fun M => ⟨tOk, (ctAll_cons (c_u38_ok M) ctAll_nil), mixed, bwAll⟩) Try.func88 (by kernel_rfl) (by kernel_rfl) p_u46 _ _ [s0, s4, s0] r_u46 false true [] (by kernel_rfl) (fun y => by kernel_rfl) (fun _ => ⟨rfl, rfl⟩) (fun y => by kernel_rfl) (m_u46 N) (fun x => by kernel_rfl)
def ct_u30 (N : Nat) : List Ctr := []
def p_u30 : Pl := .z
def r_u30 : PS := ⟨[(4, .k (.ow 900))], [(900, .arr 22 s2 true)], [s4]⟩
def m_u30 (N : Nat) : (List (List Int)) × Int → Option ((List (List Int))) := exF T ct_u30 N (bodyOf Try.f89) 15 p_u30 [.h s4, .h s0] [] [s4, s0] r_u30
def c_u30 (N : Nat) : Ctr := ⟨89, [.h s4, .h s0], [], [s4, s0], Tup r_u30.c, m_u30 N, fun y _ k => k (resG T (mkPS 15 r_u30 y) Try.f89.results.toList) (keepH' [900] (mkPS 15 r_u30 y).h), true, false⟩
theorem m_u30_eq (N : Nat) (l : (List (List Int))) (i : Int) : m_u30 (N + 1) (l, i) = obind (subI l (0 : Int) i) fun z1 =>
 obind (appI (24 : Nat) [] z1) fun z2 =>
 obind (subI l (IntKind.wrap .i64 (i + (1 : Int))) (((List.length l) : Nat) : Int)) fun z3 =>
 obind (appI (24 : Nat) z2 z3) fun z4 =>
 some z4 := by kernel_rfl
theorem c_u30_ok (N : Nat) : (c_u30 N).ok Try.prog := exF_ok (T := T) (CT := ct_u30) (N := N) (fun M => ⟨tOk, ctAll_nil, mixed, bwAll⟩) Try.func89 (by kernel_rfl) (by kernel_rfl) p_u30 _ _ [s4, s0] r_u30 true false [900] (by kernel_rfl) (fun y => by kernel_rfl) (fun h => by cases h) (fun y => by kernel_rfl) (m_u30 N) (fun x => by kernel_rfl)
def ct_u78 (N : Nat) : List Ctr := [c_u39 N]
def i_u78_1 : PS := ⟨[(0, .h s4), (1, .k (.ow 900)), (5, .h s0)], [(900, .arr 3 s0 true)], [s4, s0, s2]⟩
def o_u78_1 : List (Exit × PS) := [((.exit 0), ⟨[(0, .h s4), (1, .k (.ow 900)), (5, .h s0)], [(900, .arr 3 s0 true)], [s4, s0, s2]⟩)]
def p_u78_1 : Pl := .z
def l_u78_1 (N : Nat) : Nat → (List (List Int)) × Int × (List Int) → Option ((List (List Int)) × Int × (List Int)) := loopF (exC T (ct_u78 N) N (codeAt [1, 1, 1, 0, 0, 0] (bodyOf Try.f90))) 38 i_u78_1 o_u78_1 p_u78_1
def p_u78 : Pl := (.n .z (.n .z (.n .z (.n (.n (.loop i_u78_1 o_u78_1 p_u78_1) .z) .z))))
def r_u78 : PS := ⟨[(4, .k (.ow 900))], [(900, .arr 22 s2 true)], [s4]⟩
def m_u78 (N : Nat) : (List (List Int)) × (List Int) → Option ((List (List Int))) := exF T ct_u78 N (bodyOf Try.f90) 38 p_u78 [.h s4, .h s2] [] [s4, s2] r_u78
def c_u78 (N : Nat) : Ctr := ⟨90, [.h s4, .h s2], [], [s4, s2], Tup r_u78.c, m_u78 N, fun y _ k => k (resG T (mkPS 38 r_u78 y) Try.f90.results.toList) (keepH' [900] (mkPS 38 r_u78 y).h), true, false⟩
theorem l_u78_1_s (N m : Nat) (l : (List (List Int))) (k : Int) (r : (List Int)) : l_u78_1 N (m + 1) (l, k, r) = cond (decide (k < (((List.length l) : Nat) : Int)))
  (obind (nthI l k) fun z1 =>
   obind (nthI z1 (0 : Int)) fun z2 =>
   obind (nthI r (0 : Int)) fun z3 =>
   obind (nthI r (0 : Int)) fun z4 =>
   cond (decide (z2 < z4))
    ((l_u78_1 N m (l, ((IntKind.wrap .i64 (k + (1 : Int))), r))))
    (some (l, (k, r))))
  (some (l, (k, r))) := by kernel_rfl
theorem m_u78_eq (N : Nat) (l : (List (List Int))) (r : (List Int)) : m_u78 (N + 1) (l, r) = obind (m_u39 N r) fun z1 =>
 obind (l_u78_1 N N (l, ((0 : Int), z1))) fun z2 =>
 obind (subI z2.1 (0 : Int) z2.2.1) fun z3 =>
 obind (appI (24 : Nat) [] z3) fun z4 =>
 obind (appI (24 : Nat) z4 [z2.2.2]) fun z5 =>
 obind (subI z2.1 z2.2.1 (((List.length z2.1) : Nat) : Int)) fun z6 =>
 obind (appI (24 : Nat) z5 z6) fun z7 =>
 some z7 := by kernel_rfl
theorem c_u78_ok (N : Nat) : (c_u78 N).ok Try.prog := exF_ok (T := T) (CT := ct_u78) (N := N) (fun M => ⟨tOk, (ctAll_cons (c_u39_ok M) ctAll_nil), mixed, bwAll⟩) Try.func90 (by kernel_rfl) (by kernel_rfl) p_u78 _ _ [s4, s2] r_u78 true false [900] (by kernel_rfl) (fun y => by kernel_rfl) (fun h => by cases h) (fun y => by kernel_rfl) (m_u78 N) (fun x => by kernel_rfl)
def ct_u60 (N : Nat) : List Ctr := [c_u44 N, c_u82 N, c_u46 N, c_u58 N, c_u77 N, c_u30 N, c_u78 N]
def p_u60 : Pl := .z
def r_u60 : PS := ⟨[(6, .k (.pt 900 0)), (7, .h s0)], [(900, .box 63 [.h s0, .h s4])], [s0, s0, s4]⟩
def m_u60 (N : Nat) : Int × (List (List Int)) × Int × Int → Option (Int × Int × (List (List Int))) := exF T ct_u60 N (bodyOf Try.f64) 106 p_u60 [.ag [.h s0, .h s4], .h s0, .h s0] [] [s0, s4, s0, s0] r_u60
def c_u60 (N : Nat) : Ctr := ⟨64, [.ag [.h s0, .h s4], .h s0, .h s0], [], [s0, s4, s0, s0], Tup r_u60.c, m_u60 N, fun y _ k => k (resG T (mkPS 106 r_u60 y) Try.f64.results.toList) (keepH' [] (mkPS 106 r_u60 y).h), false, false⟩
theorem m_u60_eq (N : Nat) (f : Int) (f2 : (List (List Int))) (u : Int) (v : Int) : m_u60 (N + 1) (f, f2, u, v) = obind (m_u44 N (f, f2)) fun z1 =>
 cond (!z1)
  (some ((1 : Int), (f, f2)))
  (obind (m_u82 N (f, u)) fun z2 =>
   cond (!z2)
    (some ((10 : Int), (f, f2)))
    (obind (m_u82 N (f, v)) fun z3 =>
     cond (!z3)
      (some ((10 : Int), (f, f2)))
      (obind (m_u46 N (f, (f2, u))) fun z4 =>
       obind (m_u46 N (f, (f2, v))) fun z5 =>
       cond (decide (z4 = z5))
        (some ((5 : Int), (f, f2)))
        (obind (m_u46 N (f, (f2, u))) fun z6 =>
         obind (m_u46 N (f, (f2, v))) fun z7 =>
         obind (nthI f2 z6) fun z8 =>
         obind (m_u58 N (z8, u)) fun z9 =>
         obind (nthI f2 z7) fun z10 =>
         obind (m_u58 N (z10, v)) fun z11 =>
         obind (m_u77 N (f, (u, v))) fun z12 =>
         obind (appI (8 : Nat) [u, z12] z11.2) fun z13 =>
         obind (m_u77 N (f, (v, u))) fun z14 =>
         obind (appI (8 : Nat) z13 [z14]) fun z15 =>
         obind (subI z9.2 (1 : Int) (((List.length z9.2) : Nat) : Int)) fun z16 =>
         obind (appI (8 : Nat) z15 z16) fun z17 =>
         obind (m_u30 N (f2, (if (z7 > z6) then z7 else z6))) fun z18 =>
         obind (m_u30 N (z18, (if (z7 < z6) then z7 else z6))) fun z19 =>
         obind (m_u78 N (z19, z17)) fun z20 =>
         some ((0 : Int), (f, z20)))))) := by kernel_rfl
theorem c_u60_ok (N : Nat) : (c_u60 N).ok Try.prog := exF_ok (T := T) (CT := ct_u60) (N := N) (fun M => ⟨tOk, (ctAll_cons (c_u44_ok M) (ctAll_cons (c_u82_ok M) (ctAll_cons (c_u46_ok M) (ctAll_cons (c_u58_ok M) (ctAll_cons (c_u77_ok M) (ctAll_cons (c_u30_ok M) (ctAll_cons (c_u78_ok M) ctAll_nil))))))), mixed, bwAll⟩) Try.func64 (by kernel_rfl) (by kernel_rfl) p_u60 _ _ [s0, s4, s0, s0] r_u60 false false [] (by kernel_rfl) (fun y => by kernel_rfl) (fun _ => ⟨rfl, rfl⟩) (fun y => by kernel_rfl) (m_u60 N) (fun x => by kernel_rfl)
def ct_u47 (N : Nat) : List Ctr := [c_u48 N, c_u60 N]
def i_u47_1 : PS := ⟨[(1, .h s6), (2, .k (.pt 900 0)), (4, .k (.pt 901 0)), (8, .k (.ow 902)), (9, .h s0)], [(900, .box 63 [.h s0, .h s4]), (901, .box 63 [.h s0, .k .nil]), (902, .arr 4 .b true)], [s6, s0, s0, s4, s0, (.sl .b)]⟩
def o_u47_1 : List (Exit × PS) := [((.exit 0), ⟨[(2, .k (.pt 900 0)), (4, .k (.pt 901 0)), (8, .k (.ow 902))], [(900, .box 63 [.h s0, .h s4]), (901, .box 63 [.h s0, .k .nil]), (902, .arr 4 .b true)], [s0, s4, s0, (.sl .b)]⟩)]
def p_u47_1 : Pl := .z
def l_u47_1 (N : Nat) : Nat → (List (Int × Int)) × Int × Int × (List (List Int)) × Int × (List Bool) → Option (Int × (List (List Int)) × Int × (List Bool)) := loopF (exC T (ct_u47 N) N (codeAt [1, 1, 1, 1, 0, 1, 0, 0] (bodyOf Try.f33))) 48 i_u47_1 o_u47_1 p_u47_1
def p_u47 : Pl := (.n .z (.n .z (.n .z (.n .z (.n (.n .z (.n (.loop i_u47_1 o_u47_1 p_u47_1) .z)) .z)))))
def r_u47 : PS := ⟨[(4, .k (.pt 900 0)), (5, .k (.ow 901)), (6, .h s0)], [(900, .box 63 [.h s0, .h s4]), (901, .arr 4 .b true)], [s0, s0, s4, (.sl .b)]⟩
def m_u47 (N : Nat) : Int × (List (List Int)) × (List (Int × Int)) → Option (Int × Int × (List (List Int)) × (List Bool)) := exF T ct_u47 N (bodyOf Try.f33) 48 p_u47 [.ag [.h s0, .h s4], .h s6] [] [s0, s4, s6] r_u47
def c_u47 (N : Nat) : Ctr := ⟨33, [.ag [.h s0, .h s4], .h s6], [], [s0, s4, s6], Tup r_u47.c, m_u47 N, fun y _ k => k (resG T (mkPS 48 r_u47 y) Try.f33.results.toList) (keepH' [901] (mkPS 48 r_u47 y).h), true, false⟩
theorem l_u47_1_s (N m : Nat) (l : (List (Int × Int))) (i : Int) (f : Int) (f2 : (List (List Int))) (v4 : Int) (out : (List Bool)) : l_u47_1 N (m + 1) (l, i, f, f2, v4, out) = cond (decide (i < (((List.length l) : Nat) : Int)))
  (obind (nthI l i) fun z1 =>
   obind (nthI l i) fun z2 =>
   obind (m_u60 N (f, (f2, (z1.1, z2.2)))) fun z3 =>
   obind (appI (1 : Nat) out [(decide (z3.1 = (0 : Int)))]) fun z4 =>
   (l_u47_1 N m (l, ((IntKind.wrap .i64 (i + (1 : Int))), (z3.2.1, (z3.2.2, (v4, z4)))))))
  (some (f, (f2, (v4, out)))) := by kernel_rfl
theorem m_u47_eq (N : Nat) (f : Int) (f2 : (List (List Int))) (l : (List (Int × Int))) : m_u47 (N + 1) (f, f2, l) = obind (m_u48 N (f, (f2, l))) fun z1 =>
 cond (!(decide (z1 = (0 : Int))))
  (some (z1, (f, (f2, []))))
  (obind (l_u47_1 N N (l, ((0 : Int), (f, (f2, ((0 : Int), [])))))) fun z2 =>
   some ((0 : Int), (z2.1, (z2.2.1, z2.2.2.2)))) := by kernel_rfl
theorem c_u47_ok (N : Nat) : (c_u47 N).ok Try.prog := exF_ok (T := T) (CT := ct_u47) (N := N) (fun M => ⟨tOk, (ctAll_cons (c_u48_ok M) (ctAll_cons (c_u60_ok M) ctAll_nil)), mixed, bwAll⟩) Try.func33 (by kernel_rfl) (by kernel_rfl) p_u47 _ _ [s0, s4, s6] r_u47 true false [901] (by kernel_rfl) (fun y => by kernel_rfl) (fun h => by cases h) (fun y => by kernel_rfl) (m_u47 N) (fun x => by kernel_rfl)
def ct_u28 (N : Nat) : List Ctr := [c_u37 N, c_u43 N, c_u49 N, c_u44 N, c_u64 N, c_u29 N, c_u41 N, c_u79 N, c_u47 N]
def i_u28_2 : PS := ⟨[(7, .h s0), (8, .k (.pt 900 0)), (20, .h s0), (21, .k (.pt 901 0)), (22, .k (.ow 902)), (23, .h s0), (24, .h s0), (25, .h s0)], [(900, .box 27 [.h s2, .h s2, .h s11]), (901, .box 63 [.h s0, .h s4]), (902, .arr 4 .b true)], [s0, s0, s0, s0, s0, s2, s2, s11, s0, s4, (.sl .b)]⟩
def o_u28_2 : List (Exit × PS) := [((.exit 2), ⟨[(7, .h s0), (8, .k (.pt 900 0)), (20, .h s0), (21, .k (.pt 901 0)), (23, .h s0), (24, .h s0)], [(900, .box 27 [.h s2, .h s2, .h s11]), (901, .box 63 [.h s0, .h s4])], [s0, s0, s0, s0, s2, s2, s11, s0, s4]⟩)]
def p_u28_2 : Pl := .z
def l_u28_2 (N : Nat) : Nat → Int × Int × Int × Int × Int × (List Int) × (List Int) × (List (Int × (Int × (List (Int × Int))))) × Int × (List (List Int)) × (List Bool) → Option (Int × Int × Int × Int × (List Int) × (List Int) × (List (Int × (Int × (List (Int × Int))))) × Int × (List (List Int))) := loopF (exC T (ct_u28 N) N (codeAt [1, 1, 1, 1, 1, 1, 1, 1, 1, 1, 1, 1, 1, 0, 1, 0, 0] (bodyOf Try.f7))) 149 i_u28_2 o_u28_2 p_u28_2
def i_u28_1 : PS := ⟨[(1, .h s3), (2, .h s6), (3, .k (.pt 900 0)), (7, .h s0), (8, .k (.pt 901 0)), (10, .h s0)], [(900, .box 63 [.h s0, .h s4]), (901, .box 27 [.h s2, .h s2, .h s11])], [s3, s6, s0, s0, s0, s4, s2, s2, s11]⟩
def o_u28_1 : List (Exit × PS) := [((.exit 0), ⟨[(2, .h s6), (3, .k (.pt 900 0)), (7, .h s0), (8, .k (.pt 901 0))], [(900, .box 63 [.h s0, .h s4]), (901, .box 27 [.h s2, .h s2, .h s11])], [s6, s0, s0, s4, s2, s2, s11]⟩), (.ret, ⟨[(6, .h .b)], [], [.b]⟩)]
def p_u28_1 : Pl := .z
def l_u28_1 (N : Nat) : Nat → (List Int) × (List (Int × Int)) × Int × Int × Int × (List (List Int)) × (List Int) × (List Int) × (List (Int × (Int × (List (Int × Int))))) → Option (((List (Int × Int)) × Int × Int × (List (List Int)) × (List Int) × (List Int) × (List (Int × (Int × (List (Int × Int)))))) ⊕ (Bool)) := loopF (exC T (ct_u28 N) N (codeAt [1, 1, 1, 1, 1, 1, 1, 1, 0, 1, 0, 0] (bodyOf Try.f7))) 149 i_u28_1 o_u28_1 p_u28_1
def p_u28 : Pl := (.n .z (.n .z (.n .z (.n .z (.n .z (.n .z (.n .z (.n .z (.n (.n .z (.n (.loop i_u28_1 o_u28_1 p_u28_1) .z)) (.n .z (.n .z (.n .z (.n .z (.n (.n .z (.n (.loop i_u28_2 o_u28_2 p_u28_2) .z)) .z))))))))))))))
def r_u28 : PS := ⟨[(6, .h .b)], [], [.b]⟩
def m_u28 (N : Nat) : Int × (List (List Int)) × (List Int) × (List (Int × Int)) → Option (Bool) := exF T ct_u28 N (bodyOf Try.f7) 149 p_u28 [.ag [.h s0, .h s4], .h s3, .h s6] [] [s0, s4, s3, s6] r_u28
def c_u28 (N : Nat) : Ctr := ⟨7, [.ag [.h s0, .h s4], .h s3, .h s6], [], [s0, s4, s3, s6], Tup r_u28.c, m_u28 N, fun y _ k => k (resG T (mkPS 149 r_u28 y) Try.f7.results.toList) (keepH' [] (mkPS 149 r_u28 y).h), false, true⟩
theorem l_u28_2_s (N m : Nat) (n : Int) (full : Int) (g : Int) (more : Int) (i : Int) (s : (List Int)) (s2 : (List Int)) (s3 : (List (Int × (Int × (List (Int × Int)))))) (a : Int) (a2 : (List (List Int))) (taken : (List Bool)) : l_u28_2 N (m + 1) (n, full, g, more, i, s, s2, s3, a, a2, taken) = cond (decide (i < (((List.length taken) : Nat) : Int)))
  (obind (nthI taken i) fun z1 =>
   obind (nthI taken i) fun z2 =>
   cond z2
    ((l_u28_2 N m (n, (full, (g, ((IntKind.wrap .i64 (more + (2 : Int))), ((IntKind.wrap .i64 (i + (1 : Int))), (s, (s2, (s3, (a, (a2, taken))))))))))))
    ((l_u28_2 N m (n, (full, (g, (more, ((IntKind.wrap .i64 (i + (1 : Int))), (s, (s2, (s3, (a, (a2, taken)))))))))))))
  (some (n, (full, (g, (more, (s, (s2, (s3, (a, a2))))))))) := by kernel_rfl
theorem l_u28_1_s (N m : Nat) (script : (List Int)) (l : (List (Int × Int))) (n : Int) (i : Int) (f : Int) (f2 : (List (List Int))) (s : (List Int)) (s2 : (List Int)) (s3 : (List (Int × (Int × (List (Int × Int)))))) : l_u28_1 N (m + 1) (script, l, n, i, f, f2, s, s2, s3) = cond (decide (i < (((List.length f2) : Nat) : Int)))
  (obind (nthI f2 i) fun z1 =>
   obind (nthI f2 i) fun z2 =>
   obind (m_u29 N (z2, script)) fun z3 =>
   obind (m_u41 N (z1, z3)) fun z4 =>
   obind (m_u79 N (s, (s2, (s3, (z4.2.1, (z4.2.2.1, z4.2.2.2)))))) fun z5 =>
   cond (!(decide (z4.1 = (0 : Int))))
    (some (.inr false))
    (cond (!(decide (z5.1 = (0 : Int))))
      (some (.inr false))
      ((l_u28_1 N m (script, (l, (n, ((IntKind.wrap .i64 (i + (1 : Int))), (f, (f2, (z5.2.1, (z5.2.2.1, z5.2.2.2.1))))))))))))
  (some (.inl (l, (n, (f, (f2, (s, (s2, s3)))))))) := by kernel_rfl
theorem m_u28_eq (N : Nat) (f : Int) (f2 : (List (List Int))) (script : (List Int)) (l : (List (Int × Int))) : m_u28 (N + 1) (f, f2, script, l) = obind (m_u37 N ()) fun z1 =>
 cond (!z1)
  (some false)
  (obind (m_u43 N (f, (f2, (80 : Int)))) fun z2 =>
   cond z2
    (some true)
    (cond (decide ((12 : Int) < (((List.length l) : Nat) : Int)))
      (some true)
      (obind (m_u49 N (f, f2)) fun z3 =>
       obind (m_u44 N (f, f2)) fun z4 =>
       cond (!z4)
        (some (decide (z3 = (0 : Int))))
        (cond (!(decide (z3 = (IntKind.wrap .i64 ((IntKind.wrap .i64 ((3 : Int) * f)) - (IntKind.wrap .i64 ((2 : Int) * (((List.length f2) : Nat) : Int))))))))
          (some false)
          (obind (m_u64 N z3) fun z5 =>
           cond (!(decide (z5.1 = (0 : Int))))
            (some false)
            (obind (l_u28_1 N N (script, (l, (z3, ((0 : Int), (f, (f2, (z5.2.1, (z5.2.2.1, z5.2.2.2))))))))) fun z6 =>
             (match z6 with
             | .inl zy7 => obind (m_u41 N ([(0 : Int)], [(1 : Int)])) fun z8 =>
               obind (m_u79 N (zy7.2.2.2.2.1, (zy7.2.2.2.2.2.1, (zy7.2.2.2.2.2.2, (z8.2.1, (z8.2.2.1, z8.2.2.2)))))) fun z9 =>
               obind (m_u47 N (zy7.2.2.1, (zy7.2.2.2.1, zy7.1))) fun z10 =>
               obind (l_u28_2 N N (zy7.2.1, (z9.1, (z10.1, ((0 : Int), ((0 : Int), (zy7.2.2.2.2.1, (zy7.2.2.2.2.2.1, (zy7.2.2.2.2.2.2, (z10.2.1, (z10.2.2.1, z10.2.2.2))))))))))) fun z11 =>
               cond (decide (z11.2.1 = (2 : Int)))
                (cond (decide ((((List.length z11.2.2.2.2.2.1) : Nat) : Int) = (0 : Int)))
                  (cond (!(decide (z11.2.2.1 = (0 : Int))))
                    (some true)
                    (obind (m_u49 N (z11.2.2.2.2.2.2.2.1, z11.2.2.2.2.2.2.2.2)) fun z12 =>
                     some (decide (z12 = (IntKind.wrap .i64 (z11.1 + z11.2.2.2.1))))))
                  (some false))
                (some false)
             | .inr zy13 => some zy13))))))) := by kernel_rfl
theorem c_u28_ok (N : Nat) : (c_u28 N).ok Try.prog := exF_ok (T := T) (CT := ct_u28) (N := N) (fun M => ⟨tOk, (ctAll_cons (c_u37_ok M) (ctAll_cons (c_u43_ok M) (ctAll_cons (c_u49_ok M) (ctAll_cons (c_u44_ok M) (ctAll_cons (c_u64_ok M) (ctAll_cons (c_u29_ok M) (ctAll_cons (c_u41_ok M) (ctAll_cons (c_u79_ok M) (ctAll_cons (c_u47_ok M) ctAll_nil))))))))), mixed, bwAll⟩) Try.func7 (by kernel_rfl) (by kernel_rfl) p_u28 _ _ [s0, s4, s3, s6] r_u28 false true [] (by kernel_rfl) (fun y => by kernel_rfl) (fun _ => ⟨rfl, rfl⟩) (fun y => by kernel_rfl) (m_u28 N) (fun x => by kernel_rfl)
end Go.Proofs.Ytdahghkmejnlgaa
end
noncomputable section
set_option linter.unusedVariables false
set_option linter.unusedSimpArgs false
namespace Go.Proofs.Ytdahghkmejnlgaa
open Go Go.RowKit
theorem right_lens {g f : List Int} {ns : List Nd} (hr : rightS g f ns = true) : g.length ≤ 1000 ∧ f.length ≤ 1000 ∧ ns.length ≤ 1000 ∧ LN ns := by
 obtain ⟨hb, hlen, hc⟩ := rightS_cells.1 hr
 obtain ⟨g1, f1, _⟩ := right_len hb
 refine ⟨g1, f1, by omega, by omega, fun x hx => ?_⟩
 obtain ⟨c, hx⟩ := List.getElem?_of_mem hx
 obtain ⟨a, b⟩ := hc c x hx
 by_cases h : (c : Int) ∈ f
 · rw [a h]; simp
 · have := (fullN_iff.1 (b h)).1; omega
open Classical in
theorem putS_cases (g f : List Int) (ns : List Nd) (t t2 : List Int) (t3 : List (List Int)) :
   (rightS g f ns = true ∧ TowerR t t2 t3 ∧ (takeN t.length g f).1 = 0 ∧ putS g f ns t t2 t3 = (0, (takeN t.length g f).2.1, (takeN t.length g f).2.2.1, wrK (takeN t.length g f).2.2.2 t t2 t3 ns t.length, toH (takeN t.length g f).2.2.2 0)) ∨
   ((putS g f ns t t2 t3).1 ≠ 0 ∧ putS g f ns t t2 t3 = ((putS g f ns t t2 t3).1, g, f, ns, 0, 0) ∧ (rightS g f ns = true → TowerR t t2 t3 → (takeN t.length g f).1 ≠ 0) ∧ (rightS g f ns = true → ¬ TowerR t t2 t3 → (putS g f ns t t2 t3).1 = 1)) := by
 unfold putS
 by_cases h1 : rightS g f ns = false
 · rw [if_pos h1]; exact .inr ⟨by simp, rfl, (fun q => by rw [h1] at q; cases q), (fun q => by rw [h1] at q; cases q)⟩
 rw [if_neg h1]
 by_cases ht : TowerR t t2 t3
 · rw [if_neg (show ¬ ¬ TowerR t t2 t3 from fun q => q ht)]
   by_cases h0 : (takeN t.length g f).1 = 0
   · rw [if_neg (fun q => q h0)]; exact .inl ⟨by simpa using h1, ht, h0, rfl⟩
   · rw [if_pos h0]; exact .inr ⟨h0, rfl, fun _ _ => h0, fun _ q => absurd ht q⟩
 · rw [if_pos ht]; exact .inr ⟨by simp, rfl, fun _ q => absurd q ht, fun _ _ => rfl⟩
end Go.Proofs.Ytdahghkmejnlgaa
end
noncomputable section
set_option linter.unusedVariables false
set_option linter.unusedSimpArgs false
namespace Go.Proofs.Ytdahghkmejnlgaa
open Go Go.RowKit
abbrev Tw := List Int × List Int × List (List Int)
abbrev Held := Tw × List Hd
def sumL (hs : List Held) : Nat := (hs.map fun x => x.2.length).sum
structure SInv (n i : Nat) (g f : List Int) (ns : List Nd) (hs : List Held) (stale : List Hd) : Prop where
 right : rightS g f ns = true
 len : g.length = n
 holds : ∀ x ∈ hs, Holds g f ns x.1.1 x.1.2.1 x.1.2.2 x.2
 apart : hs.Pairwise fun x y => ∀ h ∈ x.2, h ∉ y.2
 cover : ∀ (c : Nat) x, ns[c]? = some x → (c : Int) ∉ f → ∃ y ∈ hs, ∃ h ∈ y.2, h.1 = (c : Int)
 sum : f.length + sumL hs = n
 gens : ∀ c : Nat, g.getD c 0 ≤ (i : Int)
 old : ∀ h ∈ stale, 0 ≤ h.1 ∧ h.2 ≤ g.getD h.1.toNat 0 ∧ (g.getD h.1.toNat 0 = h.2 → h.1 ∈ f)
 many : hs.length ≤ i ∧ stale.length ≤ i
theorem takeN_room : ∀ (k : Nat) {g f : List Int}, rightB g f = true → k ≤ f.length → (∀ c ∈ f, g.getD c.toNat 0 ≠ 1073741824) → (takeN k g f).1 = 0
 | 0, g, f, _, _, _ => rfl
 | k + 1, g, f, h, hk, hg => by
   have hne : f ≠ [] := fun e => by rw [e] at hk; simp at hk
   obtain ⟨c, hc, _⟩ := last_at hne
   obtain ⟨e, c0, c1, cn, hr⟩ := takeP_ok h hc (hg c (List.mem_of_getLast? hc))
   have h1 : (takeP g f).1 = 0 := by rw [e]
   have h2 : (takeN k (takeP g f).2.1 (takeP g f).2.2.1).1 = 0 := by
     rw [e]
     refine takeN_room k hr (by simp only [List.length_dropLast]; omega) fun d hd => ?_
     have hdf := List.dropLast_subset f hd
     have hne' : d ≠ c := fun q => cn (q ▸ hd)
     have hd0 := (right_cell h hdf).1
     rw [getD_set_ne (by omega)]
     exact hg d hdf
   rw [takeN_s h1 h2]
theorem sumL_append (a b : List Held) : sumL (a ++ b) = sumL a + sumL b := by simp [sumL]
theorem SInv.put {n i : Nat} {g f : List Int} {ns : List Nd} {hs : List Held} {stale : List Hd} (I : SInv n i g f ns hs stale) {t t2 : List Int} {t3 : List (List Int)} {g' f' : List Int} {ns' : List Nd} {l : List Hd} (P : PutOk g f ns t t2 t3 g' f' ns' l) :
   SInv n (i + 1) g' f' ns' (hs ++ [((t, t2, t3), l)]) stale := by
 obtain ⟨_, hlen, hcells⟩ := rightS_cells.1 I.right
 have hgen : ∀ c : Nat, g.getD c 0 ≤ g'.getD c 0 ∧ g'.getD c 0 ≤ g.getD c 0 + 1 ∧ ((c : Int) ∈ l.map (·.1) → g'.getD c 0 = g.getD c 0 + 1) := fun c => by
   by_cases hc : (c : Int) ∈ l.map (·.1)
   · obtain ⟨h, hh, e⟩ := List.mem_map.1 hc
     obtain ⟨a, b⟩ := P.one h hh
     rw [e, Int.toNat_natCast] at a b
     exact ⟨by omega, by omega, fun _ => by omega⟩
   · have := (P.same c hc).1; exact ⟨by omega, by omega, fun q => absurd q hc⟩
 refine ⟨P.right, P.gens.trans I.len, fun x hx => ?_, ?_, fun c x hx hc => ?_, ?_, fun c => by have := (hgen c).2.1; have := I.gens c; omega, fun h hh => ?_, by simp; have := I.many; omega⟩
 · rcases List.mem_append.1 hx with hx | hx
   · exact ((I.holds x hx).put P).1
   · simp only [List.mem_singleton] at hx; subst hx; exact P.holds
 · rw [List.pairwise_append]
   refine ⟨I.apart, by simp, fun x hx y hy h hh => ?_⟩
   simp only [List.mem_singleton] at hy; subst hy
   exact ((I.holds x hx).put P).2 h hh
 · by_cases hcl : (c : Int) ∈ l.map (·.1)
   · obtain ⟨h, hh, e⟩ := List.mem_map.1 hcl
     exact ⟨((t, t2, t3), l), by simp, h, hh, e⟩
   · rw [(P.same c hcl).2] at hx
     obtain ⟨y, hy, h, hh, e⟩ := I.cover c x hx (by rw [P.free]; simp only [List.mem_append, List.mem_reverse]; exact fun q => q.elim hc hcl)
     exact ⟨y, List.mem_append.2 (.inl hy), h, hh, e⟩
 · have hfl : f.length = f'.length + l.length := by rw [P.free]; simp
   have := I.sum
   rw [sumL_append]
   simp only [sumL, List.map_cons, List.map_nil, List.sum_cons, List.sum_nil] at this ⊢
   omega
 · obtain ⟨a, b, c⟩ := I.old h hh
   have hct : ((h.1.toNat : Nat) : Int) = h.1 := by omega
   obtain ⟨p, q, r⟩ := hgen h.1.toNat
   rw [hct] at r
   refine ⟨a, by omega, fun e => ?_⟩
   by_cases hcl : h.1 ∈ l.map (·.1)
   · have := r hcl; omega
   · have hm := c (by omega)
     rw [P.free] at hm
     simp only [List.mem_append, List.mem_reverse] at hm
     exact hm.elim id fun q => absurd q hcl
end Go.Proofs.Ytdahghkmejnlgaa
end
noncomputable section
set_option linter.unusedVariables false
set_option linter.unusedSimpArgs false
namespace Go.Proofs.Ytdahghkmejnlgaa
open Go Go.RowKit
theorem make_inv (n : Nat) (h1 : 1 ≤ n) (h2 : n ≤ 1000) : smakeS (n : Int) = (0, List.replicate n 0, (upI n).reverse, List.replicate n (0, (0, []))) ∧ SInv n 0 (List.replicate n 0) (upI n).reverse (List.replicate n (0, (0, []))) [] [] := by
 have e : makeP (n : Int) = (0, List.replicate n 0, (upI n).reverse) := by
   unfold makeP
   rw [if_neg (by omega), Int.toNat_natCast]
 have hmem : ∀ c : Int, c ∈ (upI n).reverse ↔ 0 ≤ c ∧ c < n := fun c => by rw [List.mem_reverse, mem_upI]
 have hn : (upI n).Nodup := by
   unfold upI
   exact List.Pairwise.map _ (fun a b hab e => hab (Int.ofNat.inj e)) List.nodup_range
 have hb : rightB (List.replicate n 0) (upI n).reverse = true := by
   refine rightB_iff.2 ⟨⟨fun q => by have := congrArg List.length q; simp at this; omega, by simpa using h2, fun x hx => by rw [(List.mem_replicate.1 hx).2]; omega⟩, fun c hc => by simpa using (hmem c).1 hc, (List.reverse_perm _).nodup_iff.2 hn⟩
 have hin : ∀ (c : Nat) (x : Nd), (List.replicate n ((0 : Int), ((0 : Int), ([] : List Hd))))[c]? = some x → x = (0, (0, [])) ∧ (c : Int) ∈ (upI n).reverse := fun c x hx => by
   have hc : c < n := by have := (List.getElem?_eq_some_iff.1 hx).1; simpa using this
   rw [List.getElem?_replicate, if_pos hc] at hx
   exact ⟨(Option.some.inj hx).symm, (hmem _).2 ⟨by omega, by omega⟩⟩
 refine ⟨by unfold smakeS; rw [e]; simp only [if_true, Int.toNat_natCast], rightS_cells.2 ⟨hb, by simp, fun c x hx => ⟨fun _ => (hin c x hx).1, fun q => absurd (hin c x hx).2 q⟩⟩, by simp, by simp, by simp, fun c x hx hc => absurd (hin c x hx).2 hc, by simp [sumL, upI_len], fun c => ?_, by simp, by simp⟩
 simp only [List.getD_eq_getElem?_getD, List.getElem?_replicate]
 split <;> simp
end Go.Proofs.Ytdahghkmejnlgaa
end
