/- StoreAlone: the seat's texts as one (5 of 6; printed by wip/prune.py). -/
import Derived.Test.YtdahghkmejnlgaaZStoreAlone4
section
set_option linter.unusedVariables false
set_option maxRecDepth 100000
namespace Go.Proofs.Ytdahghkmejnlgaa
open Go Go.RowKit
noncomputable def ct_law30_alive (N : Nat) : List Ctr := [c_ref14_Build N, c_store_Make N, c_store_Put N, c_store_Read N, c_store_Give N, c_ref01_Ints N, c_ref14_Same N, c_ref30_Handles N, c_store_Right N]
def p_law30_alive : Pl := .z
def r_law30_alive : PS := ⟨[(0, .h .b)], [], [.b]⟩
noncomputable def m_law30_alive (N : Nat) : Unit → Option (Bool) := exF T ct_law30_alive N (bodyOf Try.f8) 181 p_law30_alive [] [] [] r_law30_alive
noncomputable def c_law30_alive (N : Nat) : Ctr := ⟨8, [], [], [], Tup r_law30_alive.c, m_law30_alive N, fun y _ k => k (resG T (mkPS 181 r_law30_alive y) Try.f8.results.toList) (keepH' [] (mkPS 181 r_law30_alive y).h), false, true⟩
theorem m_law30_alive_eq (N : Nat) : m_law30_alive (N + 1) () = obind (m_ref14_Build N ([(4 : Int), (7 : Int)], [(1 : Int), (2 : Int)])) fun z1 =>
  obind (m_ref14_Build N ([(9 : Int)], [(3 : Int)])) fun z2 =>
  obind (m_store_Make N (3 : Int)) fun z3 =>
  obind (m_store_Put N (z3.2.1, (z3.2.2.1, (z3.2.2.2, (z1.2.1, (z1.2.2.1, z1.2.2.2)))))) fun z4 =>
  obind (m_store_Put N (z4.2.1, (z4.2.2.1, (z4.2.2.2.1, (z2.2.1, (z2.2.2.1, z2.2.2.2)))))) fun z5 =>
  obind (m_store_Put N (z5.2.1, (z5.2.2.1, (z5.2.2.2.1, (z2.2.1, (z2.2.2.1, z2.2.2.2)))))) fun z6 =>
  obind (m_store_Read N (z5.2.1, (z5.2.2.1, (z5.2.2.2.1, ((1 : Int), (1 : Int)))))) fun z7 =>
  obind (m_store_Give N (z5.2.1, (z5.2.2.1, (z5.2.2.2.1, (z4.2.2.2.2.1, z4.2.2.2.2.2))))) fun z8 =>
  obind (m_store_Read N (z8.2.1, (z8.2.2.1, (z8.2.2.2, (z4.2.2.2.2.1, z4.2.2.2.2.2))))) fun z9 =>
  obind (m_store_Read N (z8.2.1, (z8.2.2.1, (z8.2.2.2, (z5.2.2.2.2.1, z5.2.2.2.2.2))))) fun z10 =>
  cond (!(decide (z3.1 = (0 : Int))))
   (some false)
   (cond (!(decide (z4.1 = (0 : Int))))
     (some false)
     (cond (!(decide (z5.1 = (0 : Int))))
       (some false)
       (cond (!(decide (z6.1 = (2 : Int))))
         (some false)
         (cond (!(decide (z7.1 = (0 : Int))))
           (some false)
           (cond (!(decide (z8.1 = (0 : Int))))
             (some false)
             (cond (!(decide (z9.1 = (3 : Int))))
               (some false)
               (cond (!(decide (z10.1 = (0 : Int))))
                 (some false)
                 (cond (!(decide ((((List.length z7.2.2.2.2) : Nat) : Int) = (2 : Int))))
                   (some false)
                   (cond (!(decide ((((List.length z10.2.2.2.2) : Nat) : Int) = (1 : Int))))
                     (some false)
                     (cond (!(decide ((((List.length z5.2.2.2.1) : Nat) : Int) = (3 : Int))))
                       (some false)
                       (cond ((decide (z4.2.2.2.2.1 = (0 : Int))) && (decide (z4.2.2.2.2.2 = (1 : Int))))
                         (cond ((decide (z5.2.2.2.2.1 = (2 : Int))) && (decide (z5.2.2.2.2.2 = (1 : Int))))
                           (obind (m_ref01_Ints N (z7.2.1, [(7 : Int), (4 : Int)])) fun z11 =>
                            cond z11
                             (obind (m_ref14_Same N (z10.2.1, (z10.2.2.1, (z10.2.2.2.1, (z2.2.1, (z2.2.2.1, z2.2.2.2)))))) fun z12 =>
                              cond z12
                               (obind (nthI z5.2.2.2.1 (1 : Int)) fun z13 =>
                                obind (m_ref30_Handles N (z13.2.2, [((0 : Int), (1 : Int)), ((1 : Int), (1 : Int))])) fun z14 =>
                                cond z14
                                 (obind (m_ref01_Ints N (z8.2.2.1, [(1 : Int), (0 : Int)])) fun z15 =>
                                  cond z15
                                   (obind (m_store_Right N (z8.2.1, (z8.2.2.1, z8.2.2.2))) fun z16 =>
                                    cond z16
                                     (obind (m_store_Right N ([], ([], []))) fun z17 =>
                                      some (!z17))
                                     (some false))
                                   (some false))
                                 (some false))
                               (some false))
                             (some false))
                           (some false))
                         (some false)))))))))))) := by kernel_rfl
theorem c_law30_alive_ok (N : Nat) : (c_law30_alive N).ok Try.prog := exF_ok (T := T) (CT := ct_law30_alive) (N := N) (fun M => ⟨tOk, (ctAll_cons (c_ref14_Build_ok M) (ctAll_cons (c_store_Make_ok M) (ctAll_cons (c_store_Put_ok M) (ctAll_cons (c_store_Read_ok M) (ctAll_cons (c_store_Give_ok M) (ctAll_cons (c_ref01_Ints_ok M) (ctAll_cons (c_ref14_Same_ok M) (ctAll_cons (c_ref30_Handles_ok M) (ctAll_cons (c_store_Right_ok M) ctAll_nil))))))))), mixed, bwAll⟩) Try.func8 (by kernel_rfl) (by kernel_rfl) p_law30_alive _ _ [] r_law30_alive false true [] (by kernel_rfl) (fun y => by kernel_rfl) (fun _ => ⟨rfl, rfl⟩) (fun y => by kernel_rfl) (m_law30_alive N) (fun x => by kernel_rfl)
noncomputable def ct_ref02_Right (N : Nat) : List Ctr := []
def i_ref02_Right_2 : PS := ⟨[(1, .k (.pt 900 0)), (3, .h s1), (5, .k (.ow 901)), (6, .h s1)], [(900, .box 24 [.h s2, .h s2]), (901, .arr 4 .b true)], [s1, s1, s2, s2, (.sl .b)]⟩
def o_ref02_Right_2 : List (Exit × PS) := [((.exit 2), ⟨[], [], []⟩), (.ret, ⟨[(2, .h .b)], [], [.b]⟩)]
def p_ref02_Right_2 : Pl := .z
noncomputable def l_ref02_Right_2 (N : Nat) : Nat → Int × Int × (List Int) × (List Int) × (List Bool) → Option ((Unit) ⊕ (Bool)) := loopF (exC T (ct_ref02_Right N) N (codeAt [1, 1, 1, 1, 1, 0, 1, 0, 0] (bodyOf Try.f50))) 73 i_ref02_Right_2 o_ref02_Right_2 p_ref02_Right_2
def i_ref02_Right_1 : PS := ⟨[(1, .k (.pt 900 0)), (3, .h s1), (4, .h s1)], [(900, .box 24 [.h s2, .h s2])], [s1, s1, s2, s2]⟩
def o_ref02_Right_1 : List (Exit × PS) := [((.exit 0), ⟨[(1, .k (.pt 900 0)), (3, .h s1)], [(900, .box 24 [.h s2, .h s2])], [s1, s2, s2]⟩), (.ret, ⟨[(2, .h .b)], [], [.b]⟩)]
def p_ref02_Right_1 : Pl := .z
noncomputable def l_ref02_Right_1 (N : Nat) : Nat → Int × Int × (List Int) × (List Int) → Option ((Int × (List Int) × (List Int)) ⊕ (Bool)) := loopF (exC T (ct_ref02_Right N) N (codeAt [1, 1, 1, 0, 1, 0, 0] (bodyOf Try.f50))) 73 i_ref02_Right_1 o_ref02_Right_1 p_ref02_Right_1
def p_ref02_Right : Pl := (.n .z (.n .z (.n .z (.n (.n .z (.n (.loop i_ref02_Right_1 o_ref02_Right_1 p_ref02_Right_1) .z)) (.n .z (.n (.n .z (.n (.loop i_ref02_Right_2 o_ref02_Right_2 p_ref02_Right_2) .z)) .z))))))
def r_ref02_Right : PS := ⟨[(2, .h .b)], [], [.b]⟩
noncomputable def m_ref02_Right (N : Nat) : (List Int) × (List Int) → Option (Bool) := exF T ct_ref02_Right N (bodyOf Try.f50) 73 p_ref02_Right [.ag [.h s2, .h s2]] [] [s2, s2] r_ref02_Right
noncomputable def c_ref02_Right (N : Nat) : Ctr := ⟨50, [.ag [.h s2, .h s2]], [], [s2, s2], Tup r_ref02_Right.c, m_ref02_Right N, fun y _ k => k (resG T (mkPS 73 r_ref02_Right y) Try.f50.results.toList) (keepH' [] (mkPS 73 r_ref02_Right y).h), false, true⟩
theorem l_ref02_Right_2_s (N m : Nat) (n : Int) (i : Int) (p : (List Int)) (p2 : (List Int)) (met : (List Bool)) : l_ref02_Right_2 N (m + 1) (n, i, p, p2, met) = cond (decide (i < (((List.length p2) : Nat) : Int)))
   (obind (nthI p2 i) fun z1 =>
    cond (decide (z1 < (0 : Int)))
     (some (.inr false))
     (cond (decide (n ≤ z1))
       (some (.inr false))
       (obind (nthI met z1) fun z2 =>
        obind (nthI met z1) fun z3 =>
        cond z3
         (some (.inr false))
         (obind (nthI met z1) fun z4 =>
          obind (nthI met z1) fun z5 =>
          (l_ref02_Right_2 N m (n, ((IntKind.wrap .i64 (i + (1 : Int))), (p, (p2, (List.set met (Int.toNat z1) true))))))))))
   (some (.inl ())) := by kernel_rfl
theorem l_ref02_Right_1_s (N m : Nat) (n : Int) (i : Int) (p : (List Int)) (p2 : (List Int)) : l_ref02_Right_1 N (m + 1) (n, i, p, p2) = cond (decide (i < n))
   (obind (nthI p i) fun z1 =>
    cond (decide (z1 < (0 : Int)))
     (some (.inr false))
     (obind (nthI p i) fun z2 =>
      cond (decide ((1073741824 : Int) < z2))
       (some (.inr false))
       ((l_ref02_Right_1 N m (n, ((IntKind.wrap .i64 (i + (1 : Int))), (p, p2)))))))
   (some (.inl (n, (p, p2)))) := by kernel_rfl
theorem m_ref02_Right_eq (N : Nat) (p : (List Int)) (p2 : (List Int)) : m_ref02_Right (N + 1) (p, p2) = cond (decide ((((List.length p) : Nat) : Int) < (1 : Int)))
   (some false)
   (cond (decide ((1000 : Int) < (((List.length p) : Nat) : Int)))
     (some false)
     (cond (decide ((((List.length p) : Nat) : Int) < (((List.length p2) : Nat) : Int)))
       (some false)
       (obind (l_ref02_Right_1 N N ((((List.length p) : Nat) : Int), ((0 : Int), (p, p2)))) fun z1 =>
        (match z1 with
        | .inl zy2 => obind (makI zy2.1 (1 : Nat)) fun z3 =>
          obind (l_ref02_Right_2 N N (zy2.1, ((0 : Int), (zy2.2.1, (zy2.2.2, (List.replicate z3 false)))))) fun z4 =>
          (match z4 with
          | .inl zy5 => some true
          | .inr zy6 => some zy6)
        | .inr zy7 => some zy7)))) := by kernel_rfl
theorem c_ref02_Right_ok (N : Nat) : (c_ref02_Right N).ok Try.prog := exF_ok (T := T) (CT := ct_ref02_Right) (N := N) (fun M => ⟨tOk, ctAll_nil, mixed, bwAll⟩) Try.func50 (by kernel_rfl) (by kernel_rfl) p_ref02_Right _ _ [s2, s2] r_ref02_Right false true [] (by kernel_rfl) (fun y => by kernel_rfl) (fun _ => ⟨rfl, rfl⟩) (fun y => by kernel_rfl) (m_ref02_Right N) (fun x => by kernel_rfl)
noncomputable def ct_ref14_Right (N : Nat) : List Ctr := [c_ref14_Build N, c_ref14_Same N]
def p_ref14_Right : Pl := .z
def r_ref14_Right : PS := ⟨[(2, .h .b)], [], [.b]⟩
noncomputable def m_ref14_Right (N : Nat) : (List Int) × (List Int) × (List (List Int)) → Option (Bool) := exF T ct_ref14_Right N (bodyOf Try.f27) 20 p_ref14_Right [.ag [.h s2, .h s2, .h s3]] [] [s2, s2, s3] r_ref14_Right
noncomputable def c_ref14_Right (N : Nat) : Ctr := ⟨27, [.ag [.h s2, .h s2, .h s3]], [], [s2, s2, s3], Tup r_ref14_Right.c, m_ref14_Right N, fun y _ k => k (resG T (mkPS 20 r_ref14_Right y) Try.f27.results.toList) (keepH' [] (mkPS 20 r_ref14_Right y).h), false, true⟩
theorem m_ref14_Right_eq (N : Nat) (t : (List Int)) (t2 : (List Int)) (t3 : (List (List Int))) : m_ref14_Right (N + 1) (t, t2, t3) = obind (m_ref14_Build N (t, t2)) fun z1 =>
  cond (decide (z1.1 = (0 : Int)))
   (obind (m_ref14_Same N (z1.2.1, (z1.2.2.1, (z1.2.2.2, (t, (t2, t3)))))) fun z2 =>
    some z2)
   (some false) := by kernel_rfl
theorem c_ref14_Right_ok (N : Nat) : (c_ref14_Right N).ok Try.prog := exF_ok (T := T) (CT := ct_ref14_Right) (N := N) (fun M => ⟨tOk, (ctAll_cons (c_ref14_Build_ok M) (ctAll_cons (c_ref14_Same_ok M) ctAll_nil)), mixed, bwAll⟩) Try.func27 (by kernel_rfl) (by kernel_rfl) p_ref14_Right _ _ [s2, s2, s3] r_ref14_Right false true [] (by kernel_rfl) (fun y => by kernel_rfl) (fun _ => ⟨rfl, rfl⟩) (fun y => by kernel_rfl) (m_ref14_Right N) (fun x => by kernel_rfl)
noncomputable def ct_ref14_Great (N : Nat) : List Ctr := []
def i_ref14_Great_1 : PS := ⟨[(1, .h s1), (2, .k (.pt 900 0)), (5, .h s1), (6, .h s1)], [(900, .box 35 [.h s2, .h s2, .h s3])], [s1, s1, s1, s2, s2, s3]⟩
def o_ref14_Great_1 : List (Exit × PS) := [((.exit 0), ⟨[(1, .h s1), (5, .h s1)], [], [s1, s1]⟩)]
def p_ref14_Great_1 : Pl := .z
noncomputable def l_ref14_Great_1 (N : Nat) : Nat → Int × Int × Int × (List Int) × (List Int) × (List (List Int)) → Option (Int × Int) := loopF (exC T (ct_ref14_Great N) N (codeAt [1, 1, 0, 1, 0, 0] (bodyOf Try.f20))) 41 i_ref14_Great_1 o_ref14_Great_1 p_ref14_Great_1
def p_ref14_Great : Pl := (.n .z (.n .z (.n (.n .z (.n (.loop i_ref14_Great_1 o_ref14_Great_1 p_ref14_Great_1) .z)) .z)))
def r_ref14_Great : PS := ⟨[(4, .h .b)], [], [.b]⟩
noncomputable def m_ref14_Great (N : Nat) : (List Int) × (List Int) × (List (List Int)) × Int → Option (Bool) := exF T ct_ref14_Great N (bodyOf Try.f20) 41 p_ref14_Great [.ag [.h s2, .h s2, .h s3], .h s1] [] [s2, s2, s3, s1] r_ref14_Great
noncomputable def c_ref14_Great (N : Nat) : Ctr := ⟨20, [.ag [.h s2, .h s2, .h s3], .h s1], [], [s2, s2, s3, s1], Tup r_ref14_Great.c, m_ref14_Great N, fun y _ k => k (resG T (mkPS 41 r_ref14_Great y) Try.f20.results.toList) (keepH' [] (mkPS 41 r_ref14_Great y).h), false, true⟩
theorem l_ref14_Great_1_s (N m : Nat) (most : Int) (n : Int) (i : Int) (t : (List Int)) (t2 : (List Int)) (t3 : (List (List Int))) : l_ref14_Great_1 N (m + 1) (most, n, i, t, t2, t3) = cond (decide (i < (((List.length t3) : Nat) : Int)))
   (cond (decide (n ≤ most))
     (obind (nthI t3 i) fun z1 =>
      (l_ref14_Great_1 N m (most, ((IntKind.wrap .i64 (n + (((List.length z1) : Nat) : Int))), ((IntKind.wrap .i64 (i + (1 : Int))), (t, (t2, t3)))))))
     (some (most, n)))
   (some (most, n)) := by kernel_rfl
theorem m_ref14_Great_eq (N : Nat) (t : (List Int)) (t2 : (List Int)) (t3 : (List (List Int))) (most : Int) : m_ref14_Great (N + 1) (t, t2, t3, most) = obind (l_ref14_Great_1 N N (most, ((IntKind.wrap .i64 ((IntKind.wrap .i64 ((((List.length t) : Nat) : Int) + (((List.length t2) : Nat) : Int))) + (((List.length t3) : Nat) : Int))), ((0 : Int), (t, (t2, t3)))))) fun z1 =>
  some (decide (z1.1 < z1.2)) := by kernel_rfl
theorem c_ref14_Great_ok (N : Nat) : (c_ref14_Great N).ok Try.prog := exF_ok (T := T) (CT := ct_ref14_Great) (N := N) (fun M => ⟨tOk, ctAll_nil, mixed, bwAll⟩) Try.func20 (by kernel_rfl) (by kernel_rfl) p_ref14_Great _ _ [s2, s2, s3, s1] r_ref14_Great false true [] (by kernel_rfl) (fun y => by kernel_rfl) (fun _ => ⟨rfl, rfl⟩) (fun y => by kernel_rfl) (m_ref14_Great N) (fun x => by kernel_rfl)
end Go.Proofs.Ytdahghkmejnlgaa
end
section
set_option linter.unusedVariables false
set_option linter.unusedSimpArgs false
namespace Go.Proofs.Ytdahghkmejnlgaa
open Go Go.RowKit
/-- more rounds than any list has places -/
def Fu : Nat := 18446744073709551616
theorem Fu_eq : Fu = 18446744073709551616 := rfl
theorem maxLen_eq : maxLen = 9223372036854775807 := rfl
theorem cd {α : Type} {p : Prop} [Decidable p] (x y : α) : cond (decide p) x y = if p then x else y := by
  by_cases h : p <;> simp [h]
theorem cdn {α : Type} {p : Prop} [Decidable p] (x y : α) : cond (!(decide p)) x y = if p then y else x := by
  by_cases h : p <;> simp [h]
theorem cb {α : Type} (b : Bool) (x y : α) : cond b x y = if b = true then x else y := by cases b <;> rfl
theorem ob {α β : Type} (x : α) (f : α → Option β) : obind (some x) f = f x := rfl
theorem ob_id {α : Type} (o : Option α) : (obind o fun z => some z) = o := by cases o <;> rfl
/-- a whole number that fits -/
theorem w64 {x : Int} (h1 : -9223372036854775808 ≤ x) (h2 : x ≤ 9223372036854775807) : IntKind.wrap .i64 x = x := by
  simp [IntKind.wrap, IntKind.bits, IntKind.signed]; omega
theorem w64n {i : Nat} (h : i < 9223372036854775807) : IntKind.wrap .i64 ((i : Int) + 1) = ((i + 1 : Nat) : Int) := by
  rw [w64 (by omega) (by omega)]; omega
theorem nth_of {α : Type} {xs : List α} {i : Nat} {x : α} (h : xs[i]? = some x) : nthI xs (i : Int) = some x := by
  simp [nthI, h]
theorem nth_at {α : Type} {xs : List α} {i : Nat} {j : Int} {x : α} (h : xs[i]? = some x) (hj : j = i) : nthI xs j = some x := by
  subst hj; exact nth_of h
theorem get_at {α : Type} {xs : List α} {i : Nat} (h : i < xs.length) : ∃ x, xs[i]? = some x := ⟨_, List.getElem?_eq_getElem h⟩
theorem nth_ex {α : Type} {xs : List α} {j : Int} (h0 : 0 ≤ j) (h : j < xs.length) : ∃ x, xs[j.toNat]? = some x ∧ nthI xs j = some x := by
  obtain ⟨x, hx⟩ := get_at (xs := xs) (i := j.toNat) (by omega)
  exact ⟨x, hx, nth_at hx (by omega)⟩
theorem drop_at {α : Type} {xs : List α} {i : Nat} {x : α} (h : xs[i]? = some x) : xs.drop i = x :: xs.drop (i + 1) := by
  obtain ⟨hl, he⟩ := List.getElem?_eq_some_iff.1 h
  rw [← he]; exact List.drop_eq_getElem_cons hl
theorem take_at {α : Type} {xs : List α} {i : Nat} {x : α} (h : xs[i]? = some x) : xs.take (i + 1) = xs.take i ++ [x] := by
  rw [List.take_add_one, h]; rfl
theorem sub_of {α : Type} {xs : List α} {l h : Int} (h0 : 0 ≤ l) (h1 : l ≤ h) (h2 : h ≤ xs.length) : subI xs l h = some ((xs.take h.toNat).drop l.toNat) := by
  simp [subI, h0, h1, h2]
theorem sub_take {α : Type} {xs : List α} {h : Int} (h1 : 0 ≤ h) (h2 : h ≤ xs.length) : subI xs 0 h = some (xs.take h.toNat) := by
  rw [sub_of (by omega) h1 h2]; rfl
theorem sub_drop {α : Type} {xs : List α} {l : Int} (h1 : 0 ≤ l) (h2 : l ≤ xs.length) : subI xs l ((xs.length : Nat) : Int) = some (xs.drop l.toNat) := by
  rw [sub_of h1 h2 (by omega)]; simp
theorem subM_all {α : Type} (xs : List α) : subM xs 0 ((xs.length : Nat) : Int) ((xs.length : Nat) : Int) = some xs := by
  simp [subM]
theorem app_of {α : Type} {b : Nat} {xs ys : List α} (hb : b ≤ 1000) (h : xs.length + ys.length ≤ 100000000000) : appI b xs ys = some (xs ++ ys) := by
  unfold appI
  rw [if_pos]
  refine ⟨?_, by rw [maxLen_eq]; omega⟩
  calc (xs.length + ys.length) * b ≤ 100000000000 * 1000 := Nat.mul_le_mul h hb
    _ ≤ 140737488355328 := by decide
theorem mak_of {a : Int} {b : Nat} (hb : b ≤ 1000) (h0 : 0 ≤ a) (h : a ≤ 100000000000) : makI a b = some a.toNat := by
  unfold makI
  rw [if_pos]
  refine ⟨h0, ?_, by rw [maxLen_eq]; omega⟩
  calc b * a.toNat ≤ 1000 * 100000000000 := Nat.mul_le_mul hb (by omega)
    _ ≤ 140737488355328 := by decide
theorem rem_of {a b : Int} (h : b ≠ 0) : remI a b = some (a.tmod b) := by simp [remI, h]
theorem tmod_nat (a b : Nat) : Int.tmod (a : Int) (b : Int) = ((a % b : Nat) : Int) := by
  rw [Int.tmod_eq_emod_of_nonneg (by omega)]; omega
end Go.Proofs.Ytdahghkmejnlgaa
end
section
set_option linter.unusedVariables false
set_option linter.unusedSimpArgs false
namespace Go.Proofs.Ytdahghkmejnlgaa
open Go Go.RowKit
theorem get_put : ∀ (es : List (Int × Int)) (c d v : Int), mget (.i .i64) (mput (.i .i64) es c v) d = if c = d then some v else mget (.i .i64) es d
  | [], c, d, v => by
    by_cases h : c = d
    · subst h; simp [mput, mget, eqV]
    · have h3 : eqV (.i .i64) c d = false := by simp [eqV, h]
      simp [mput, mget, h3, h]
  | (x, y) :: es, c, d, v => by
    rw [mput]
    by_cases h : x = c
    · subst h
      by_cases h2 : x = d
      · subst h2; simp [eqV, mget]
      · have h3 : eqV (.i .i64) x d = false := by simp [eqV, h2]
        have h4 : eqV (.i .i64) x x = true := by simp [eqV]
        simp [mget, h3, h4, h2]
    · have h3 : eqV (.i .i64) x c = false := by simp [eqV, h]
      simp only [h3, cond_false, mget]
      by_cases h2 : x = d
      · subst h2
        have h4 : eqV (.i .i64) x x = true := by simp [eqV]
        rw [h4, if_neg (fun e => h e.symm)]
        rfl
      · have h4 : eqV (.i .i64) x d = false := by simp [eqV, h2]
        rw [h4]
        simp only [cond_false]
        exact get_put es c d v
theorem put_len : ∀ (es : List (Int × Int)) (c v : Int), (mput (.i .i64) es c v).length = es.length + if (mget (.i .i64) es c).isSome then 0 else 1
  | [], c, v => by simp [mput, mget]
  | (x, y) :: es, c, v => by
    rw [mput, mget]
    by_cases h : x = c
    · subst h
      have h4 : eqV (.i .i64) x x = true := by simp [eqV]
      simp [h4]
    · have h3 : eqV (.i .i64) x c = false := by simp [eqV, h]
      simp only [h3, cond_false, List.length_cons, put_len es c v]
      omega
theorem ints_loop (N : Nat) (a b : List Int) (hl : a.length = b.length) (hm : a.length ≤ 9223372036854775807) : ∀ (k i m : Nat), i + k = a.length → k < m →
    l_ref01_Ints_1 N m (a, b, (i : Int)) = some (if a.drop i = b.drop i then .inl () else .inr false)
  | k, i, 0, h1, h2 => by omega
  | 0, i, m + 1, h1, h2 => by
    rw [l_ref01_Ints_1_s, cd, if_neg (by omega), List.drop_eq_nil_of_le (by omega), List.drop_eq_nil_of_le (by omega), if_pos rfl]
  | k + 1, i, m + 1, h1, h2 => by
    obtain ⟨x, hx⟩ := get_at (xs := a) (i := i) (by omega)
    obtain ⟨y, hy⟩ := get_at (xs := b) (i := i) (by omega)
    rw [l_ref01_Ints_1_s, cd, if_pos (by omega), nth_of hx, ob, nth_of hy, ob, cdn, w64n (by omega), ints_loop N a b hl hm k (i + 1) m (by omega) (by omega), drop_at hx, drop_at hy]
    by_cases h : x = y
    · simp [h]
    · simp [h]
theorem ints_eq (N : Nat) (hN : Fu + 1 ≤ N) (a b : List Int) (hm : a.length ≤ 9223372036854775807) : m_ref01_Ints N (a, b) = some (decide (a = b)) := by
  obtain ⟨N, rfl⟩ : ∃ n, N = n + 1 := ⟨N - 1, by omega⟩
  rw [m_ref01_Ints_eq, cdn]
  by_cases hl : a.length = b.length
  · rw [if_pos (by omega), show ((0 : Int) = ((0 : Nat) : Int)) from rfl, ints_loop N a b hl hm a.length 0 N (by omega) (by have := Fu_eq; omega), ob, List.drop_zero, List.drop_zero]
    by_cases h : a = b <;> simp [h]
  · rw [if_neg (by omega)]
    have : ¬ a = b := fun e => hl (by rw [e])
    simp [this]
def TokR (l : List Int) : Prop := ∀ t ∈ l, 0 ≤ t ∧ t ≤ 10000
def RingR (l : List Int) : Prop := l.length ≤ 1000 ∧ TokR l ∧ l.Nodup
instance (l : List Int) : Decidable (TokR l) := by unfold TokR; exact inferInstance
instance (l : List Int) : Decidable (RingR l) := by unfold RingR; exact inferInstance
theorem tok_odd (N : Nat) (hN : Fu ≤ N) (t : Int) : m_ring_RightF1 N t = some (decide (¬ (0 ≤ t ∧ t ≤ 10000))) := by
  obtain ⟨N, rfl⟩ : ∃ n, N = n + 1 := ⟨N - 1, by have := Fu_eq; omega⟩
  rw [m_ring_RightF1_eq, cd]
  by_cases h : t < 0
  · rw [if_pos h]
    have : ¬ (0 ≤ t ∧ t ≤ 10000) := by omega
    simp [this]
  · rw [if_neg h]
    congr 1
    simp only [decide_eq_decide]
    omega
theorem tokf_loop (N : Nat) (hN : Fu ≤ N) (l : List Int) (hm : l.length ≤ 9223372036854775807) : ∀ (k i m : Nat), i + k = l.length → k < m →
    ∃ j : Nat, l_slices_IndexFunc_Lint_int_ring_RightF1_1 N m (l, ((l.length : Nat) : Int), (i : Int)) = some (if TokR (l.drop i) then .inl () else .inr (j : Int))
  | k, i, 0, h1, h2 => by omega
  | 0, i, m + 1, h1, h2 => by
    refine ⟨0, ?_⟩
    rw [l_slices_IndexFunc_Lint_int_ring_RightF1_1_s, cd, if_neg (by omega), List.drop_eq_nil_of_le (by omega), if_pos (by intro t h; cases h)]
  | k + 1, i, m + 1, h1, h2 => by
    obtain ⟨x, hx⟩ := get_at (xs := l) (i := i) (by omega)
    obtain ⟨j, ih⟩ := tokf_loop N hN l hm k (i + 1) m (by omega) (by omega)
    rw [l_slices_IndexFunc_Lint_int_ring_RightF1_1_s, cd, if_pos (by omega), nth_of hx, ob, tok_odd N hN x, ob, cd, w64n (by omega), ih, drop_at hx]
    by_cases h : 0 ≤ x ∧ x ≤ 10000
    · refine ⟨j, ?_⟩
      rw [if_neg (fun e => e h)]
      have : TokR (x :: l.drop (i + 1)) ↔ TokR (l.drop (i + 1)) := ⟨fun e t ht => e t (by simp [ht]), fun e t ht => by
        rcases List.mem_cons.1 ht with rfl | ht
        · exact h
        · exact e t ht⟩
      by_cases h3 : TokR (l.drop (i + 1))
      · rw [if_pos h3, if_pos (this.2 h3)]
      · rw [if_neg h3, if_neg (fun e => h3 (this.1 e))]
    · refine ⟨i, ?_⟩
      rw [if_pos h, if_neg (fun e => h (e x (by simp)))]
theorem tokf_eq (N : Nat) (hN : Fu + 2 ≤ N) (l : List Int) (hm : l.length ≤ 9223372036854775807) : m_slices_ContainsFunc_Lint_int_ring_RightF1 N l = some (!decide (TokR l)) := by
  obtain ⟨N, rfl⟩ : ∃ n, N = n + 2 := ⟨N - 2, by omega⟩
  rw [m_slices_ContainsFunc_Lint_int_ring_RightF1_eq, m_slices_IndexFunc_Lint_int_ring_RightF1_eq]
  obtain ⟨j, h⟩ := tokf_loop N (by omega) l hm l.length 0 N (by omega) (by have := Fu_eq; omega)
  rw [show ((0 : Int) = ((0 : Nat) : Int)) from rfl, h, List.drop_zero]
  by_cases hT : TokR l <;> simp [ob, hT]
/-- what is met, counted -/
structure Met (l : List Int) (met : List (Int × Int)) : Prop where
  mem : ∀ c, (mget (.i .i64) met c).isSome = decide (c ∈ l)
  le : met.length ≤ l.length
  eq : met.length = l.length ↔ l.Nodup
theorem met_nil : Met [] [] := ⟨fun c => rfl, by simp, by simp⟩
theorem met_put {l : List Int} {met : List (Int × Int)} (h : Met l met) (x v : Int) : Met (l ++ [x]) (mput (.i .i64) met x v) := by
  refine ⟨fun c => ?_, ?_, ?_⟩
  · rw [get_put]
    by_cases hc : x = c
    · subst hc; simp
    · rw [if_neg hc, h.mem c]
      have hc' : ¬ c = x := fun e => hc e.symm
      simp [hc']
  · rw [put_len]
    have := h.le
    simp only [List.length_append, List.length_singleton]
    split <;> omega
  · rw [put_len, h.mem x]
    have h1 := h.le
    have h2 := h.eq
    simp only [List.length_append, List.length_singleton]
    by_cases hx : x ∈ l
    · simp only [hx, decide_true, if_true]
      constructor
      · intro e; omega
      · intro e
        rw [List.nodup_append] at e
        exact absurd rfl (e.2.2 x hx x (by simp))
    · simp only [hx, decide_false, Bool.false_eq_true, if_false]
      constructor
      · intro e
        rw [List.nodup_append]
        refine ⟨h2.1 (by omega), by simp, fun a ha b hb => ?_⟩
        simp at hb; subst hb
        rintro rfl; exact hx ha
      · intro e
        rw [List.nodup_append] at e
        have := h2.2 e.1
        omega
theorem once_loop (N : Nat) (l l0 : List Int) (hm : l.length ≤ 9223372036854775807) : ∀ (k i m : Nat) (met : List (Int × Int)), i + k = l.length → k < m → Met (l.take i) met →
    ∃ met', l_ring_once_int_1 N m (l0, l, ((l.length : Nat) : Int), (i : Int), met) = some (l0, met') ∧ Met l met'
  | k, i, 0, met, h1, h2, hM => by omega
  | 0, i, m + 1, met, h1, h2, hM => by
    rw [l_ring_once_int_1_s, cd, if_neg (by omega)]
    rw [List.take_of_length_le (by omega)] at hM
    exact ⟨met, rfl, hM⟩
  | k + 1, i, m + 1, met, h1, h2, hM => by
    obtain ⟨x, hx⟩ := get_at (xs := l) (i := i) (by omega)
    rw [l_ring_once_int_1_s, cd, if_pos (by omega), nth_of hx, ob, w64n (by omega)]
    refine once_loop N l l0 hm k (i + 1) m _ (by omega) (by omega) ?_
    rw [take_at hx]
    exact met_put hM x _
theorem once_eq (N : Nat) (hN : Fu + 1 ≤ N) (l : List Int) (hm : l.length ≤ 9223372036854775807) : m_ring_once_int N l = some (decide l.Nodup) := by
  obtain ⟨N, rfl⟩ : ∃ n, N = n + 1 := ⟨N - 1, by omega⟩
  obtain ⟨met, h1, h2⟩ := once_loop N l l hm l.length 0 N [] (by omega) (by have := Fu_eq; omega) met_nil
  rw [m_ring_once_int_eq, show ((0 : Int) = ((0 : Nat) : Int)) from rfl, h1, ob]
  congr 1
  rw [decide_eq_decide]
  have := h2.eq
  constructor
  · intro e; simp only at e; exact this.1 (by omega)
  · intro e; have := this.2 e; simp only; omega
theorem ring_eq (N : Nat) (hN : Fu + 3 ≤ N) (l : List Int) (hm : l.length ≤ 9223372036854775807) : m_ring_Right N l = some (decide (RingR l)) := by
  obtain ⟨N, rfl⟩ : ∃ n, N = n + 1 := ⟨N - 1, by omega⟩
  rw [m_ring_Right_eq, cd]
  by_cases h1 : 1000 < l.length
  · rw [if_pos (by omega)]
    have : ¬ RingR l := fun h => by have := h.1; omega
    simp [this]
  rw [if_neg (by omega), tokf_eq N (by omega) l hm, ob, once_eq N (by omega) l hm]
  by_cases h2 : TokR l
  · by_cases h3 : l.Nodup
    · have : RingR l := ⟨by omega, h2, h3⟩
      simp [h2, h3, this, ob]
    · have : ¬ RingR l := fun h => h3 h.2.2
      simp [h2, h3, this, ob]
  · have : ¬ RingR l := fun h => h2 h.2.1
    simp [h2, this, ob]
theorem place_loop (N : Nat) (xs : List Int) (v : Int) (hm : xs.length ≤ 9223372036854775807) : ∀ (k i m : Nat), i + k = xs.length → k < m →
    (v ∈ xs.drop i → ∃ j : Nat, l_ref13_Place_1 N m (xs, v, (i : Int)) = some (.inr (j : Int))) ∧ (v ∉ xs.drop i → l_ref13_Place_1 N m (xs, v, (i : Int)) = some (.inl ()))
  | k, i, 0, h1, h2 => by omega
  | 0, i, m + 1, h1, h2 => by
    rw [l_ref13_Place_1_s, cd, if_neg (by omega), List.drop_eq_nil_of_le (by omega)]; simp
  | k + 1, i, m + 1, h1, h2 => by
    obtain ⟨x, hx⟩ := get_at (xs := xs) (i := i) (by omega)
    have ih := place_loop N xs v hm k (i + 1) m (by omega) (by omega)
    rw [l_ref13_Place_1_s, cd, if_pos (by omega), nth_of hx, ob, cd, w64n (by omega), drop_at hx]
    by_cases h : x = v
    · rw [if_pos h]
      exact ⟨fun _ => ⟨i, rfl⟩, fun hn => absurd (by simp [h]) hn⟩
    · rw [if_neg h]
      have h' : ¬ v = x := fun e => h e.symm
      simp only [List.mem_cons, h', false_or]
      exact ih
theorem place_sign (N : Nat) (hN : Fu + 1 ≤ N) (xs : List Int) (v : Int) (hm : xs.length ≤ 9223372036854775807) : ∃ r : Int, m_ref13_Place N (xs, v) = some r ∧ (0 ≤ r ↔ v ∈ xs) := by
  obtain ⟨N, rfl⟩ : ∃ n, N = n + 1 := ⟨N - 1, by omega⟩
  obtain ⟨h1, h2⟩ := place_loop N xs v hm xs.length 0 N (by omega) (by have := Fu_eq; omega)
  rw [List.drop_zero] at h1 h2
  rw [m_ref13_Place_eq, show ((0 : Int) = ((0 : Nat) : Int)) from rfl]
  by_cases h : v ∈ xs
  · obtain ⟨j, hj⟩ := h1 h
    rw [hj]
    exact ⟨j, rfl, by simp [h]⟩
  · rw [h2 h]
    exact ⟨-1, rfl, by simp [h]⟩
def TokN (l : List Int) : Prop := TokR l ∧ l.Nodup
instance (l : List Int) : Decidable (TokN l) := by unfold TokN; exact inferInstance
theorem tokN_not {l : List Int} {i : Nat} {y : Int} (hy : l[i]? = some y) (h : y < 0 ∨ 10000 < y ∨ y ∈ l.take i) : ¬ TokN l := by
  intro hf
  have := hf.1 y (List.mem_of_getElem? hy)
  rcases h with h | h | h
  · omega
  · omega
  · have h2 := (List.take_sublist (i + 1) l).nodup hf.2
    rw [take_at hy, List.nodup_append] at h2
    exact h2.2.2 y h y (by simp) rfl
theorem tokN_next {l : List Int} {i : Nat} {y : Int} (hf : TokN (l.take i)) (hy : l[i]? = some y) (h0 : 0 ≤ y) (h1 : y ≤ 10000) (hn : y ∉ l.take i) : TokN (l.take (i + 1)) := by
  rw [take_at hy]
  refine ⟨fun f hf' => ?_, ?_⟩
  · rcases List.mem_append.1 hf' with h | h
    · exact hf.1 f h
    · simp at h; subst h; exact ⟨h0, h1⟩
  · rw [List.nodup_append]
    refine ⟨hf.2, by simp, fun a ha b hb => ?_⟩
    simp at hb; subst hb
    rintro rfl; exact hn ha
theorem rring_loop (N : Nat) (hN : Fu + 1 ≤ N) (l : List Int) (hm : l.length ≤ 9223372036854775807) : ∀ (k i m : Nat), i + k = l.length → k < m → TokN (l.take i) →
    l_ref13_Right_1 N m (l, (i : Int)) = some (if TokN l then .inl () else .inr false)
  | k, i, 0, h1, h2, hf => by omega
  | 0, i, m + 1, h1, h2, hf => by
    rw [l_ref13_Right_1_s, cd, if_neg (by omega)]
    rw [List.take_of_length_le (by omega)] at hf
    rw [if_pos hf]
  | k + 1, i, m + 1, h1, h2, hf => by
    obtain ⟨x, hx⟩ := get_at (xs := l) (i := i) (by omega)
    rw [l_ref13_Right_1_s, cd, if_pos (by omega), nth_of hx, ob, cd]
    by_cases c1 : x < 0
    · rw [if_pos c1, if_neg (tokN_not hx (.inl c1))]
    rw [if_neg c1, ob, cd]
    by_cases c2 : 10000 < x
    · rw [if_pos c2, if_neg (tokN_not hx (.inr (.inl c2)))]
    rw [if_neg c2, sub_take (by omega) (by omega), ob, ob]
    obtain ⟨r, hr, hs⟩ := place_sign N hN (l.take (i : Int).toNat) x (by rw [List.length_take]; omega)
    rw [hr, ob, cd]
    rw [Int.toNat_natCast] at hs
    by_cases c3 : x ∈ l.take i
    · rw [if_pos (hs.2 c3), if_neg (tokN_not hx (.inr (.inr c3)))]
    · rw [if_neg (fun e => c3 (hs.1 e)), w64n (by omega)]
      exact rring_loop N hN l hm k (i + 1) m (by omega) (by omega) (tokN_next hf hx (by omega) (by omega) c3)
theorem rring_eq (N : Nat) (hN : Fu + 3 ≤ N) (l : List Int) (hm : l.length ≤ 9223372036854775807) : m_ref13_Right N l = some (decide (RingR l)) := by
  obtain ⟨N, rfl⟩ : ∃ n, N = n + 1 := ⟨N - 1, by omega⟩
  rw [m_ref13_Right_eq, cd]
  by_cases h1 : 1000 < l.length
  · rw [if_pos (by omega)]
    have : ¬ RingR l := fun h => by have := h.1; omega
    simp [this]
  rw [if_neg (by omega), show ((0 : Int) = ((0 : Nat) : Int)) from rfl, rring_loop N (by omega) l hm l.length 0 N (by omega) (by have := Fu_eq; omega) ⟨fun t h => (by simp at h), by simp⟩, ob]
  by_cases h2 : TokN l
  · have : RingR l := ⟨by omega, h2.1, h2.2⟩
    simp [h2, this]
  · have : ¬ RingR l := fun h => h2 ⟨h.2.1, h.2.2⟩
    simp [h2, this]
end Go.Proofs.Ytdahghkmejnlgaa
end
section
set_option linter.unusedVariables false
set_option linter.unusedSimpArgs false
namespace Go.Proofs.Ytdahghkmejnlgaa
open Go Go.RowKit
theorem equal_loop (N : Nat) (a b : List Int) (hl : a.length = b.length) (hm : a.length ≤ 9223372036854775807) : ∀ (k i m : Nat), i + k = a.length → k < m →
    l_slices_Equal_Lint_int_1 N m (a, b, ((a.length : Nat) : Int), (i : Int)) = some (if a.drop i = b.drop i then .inl () else .inr false)
  | k, i, 0, h1, h2 => by omega
  | 0, i, m + 1, h1, h2 => by
    rw [l_slices_Equal_Lint_int_1_s, cd, if_neg (by omega), List.drop_eq_nil_of_le (by omega), List.drop_eq_nil_of_le (by omega), if_pos rfl]
  | k + 1, i, m + 1, h1, h2 => by
    obtain ⟨x, hx⟩ := get_at (xs := a) (i := i) (by omega)
    obtain ⟨y, hy⟩ := get_at (xs := b) (i := i) (by omega)
    rw [l_slices_Equal_Lint_int_1_s, cd, if_pos (by omega), nth_of hx, ob, nth_of hy, ob, cdn, w64n (by omega), equal_loop N a b hl hm k (i + 1) m (by omega) (by omega), drop_at hx, drop_at hy]
    by_cases h : x = y
    · simp [h]
    · simp [h]
theorem equal_eq (N : Nat) (hN : Fu + 1 ≤ N) (a b : List Int) (hm : a.length ≤ 9223372036854775807) : m_slices_Equal_Lint_int N (a, b) = some (decide (a = b)) := by
  obtain ⟨N, rfl⟩ : ∃ n, N = n + 1 := ⟨N - 1, by omega⟩
  rw [m_slices_Equal_Lint_int_eq, cdn]
  by_cases hl : a.length = b.length
  · rw [if_pos (by omega), show ((0 : Int) = ((0 : Nat) : Int)) from rfl, equal_loop N a b hl hm a.length 0 N (by omega) (by have := Fu_eq; omega), ob, List.drop_zero, List.drop_zero]
    by_cases h : a = b <;> simp [h]
  · rw [if_neg (by omega)]
    have : ¬ a = b := fun e => hl (by rw [e])
    simp [this]
theorem clone_eq (N : Nat) (hN : Fu + 1 ≤ N) (a : List Int) (hm : a.length ≤ 100000000000) : m_slices_Clone_Lint_int N a = some a := by
  obtain ⟨N, rfl⟩ : ∃ n, N = n + 1 := ⟨N - 1, by omega⟩
  rw [m_slices_Clone_Lint_int_eq, app_of (by omega) (by simpa using hm), List.nil_append]
  cases a with
  | nil => exact dem_iff.2 ⟨rfl, rfl⟩
  | cons x xs => rfl
end Go.Proofs.Ytdahghkmejnlgaa
end
section
set_option linter.unusedVariables false
set_option linter.unusedSimpArgs false
namespace Go.Proofs.Ytdahghkmejnlgaa
open Go Go.RowKit
theorem equals_loop (N : Nat) (hN : Fu + 1 ≤ N) (a b : List (List Int)) (hl : a.length = b.length) (hm : a.length ≤ 9223372036854775807) (hi : ∀ x ∈ a, x.length ≤ 9223372036854775807) : ∀ (k i m : Nat), i + k = a.length → k < m →
    l_slices_EqualFunc_LLint_LLint_Lint_Lint_slices_Equal_Lint_int_1 N m (b, a, ((a.length : Nat) : Int), (i : Int)) = some (if a.drop i = b.drop i then .inl () else .inr false)
  | k, i, 0, h1, h2 => by omega
  | 0, i, m + 1, h1, h2 => by
    rw [l_slices_EqualFunc_LLint_LLint_Lint_Lint_slices_Equal_Lint_int_1_s, cd, if_neg (by omega), List.drop_eq_nil_of_le (by omega), List.drop_eq_nil_of_le (by omega), if_pos rfl]
  | k + 1, i, m + 1, h1, h2 => by
    obtain ⟨x, hx⟩ := get_at (xs := a) (i := i) (by omega)
    obtain ⟨y, hy⟩ := get_at (xs := b) (i := i) (by omega)
    rw [l_slices_EqualFunc_LLint_LLint_Lint_Lint_slices_Equal_Lint_int_1_s, cd, if_pos (by omega), nth_of hx, ob, nth_of hy, ob, equal_eq N hN x y (hi x (List.mem_of_getElem? hx)), ob, cdn, w64n (by omega), equals_loop N hN a b hl hm hi k (i + 1) m (by omega) (by omega), drop_at hx, drop_at hy]
    by_cases h : x = y
    · simp [h]
    · simp [h]
theorem equals_eq (N : Nat) (hN : Fu + 2 ≤ N) (a b : List (List Int)) (hm : a.length ≤ 9223372036854775807) (hi : ∀ x ∈ a, x.length ≤ 9223372036854775807) : m_slices_EqualFunc_LLint_LLint_Lint_Lint_slices_Equal_Lint_int N (a, b) = some (decide (a = b)) := by
  obtain ⟨N, rfl⟩ : ∃ n, N = n + 1 := ⟨N - 1, by omega⟩
  rw [m_slices_EqualFunc_LLint_LLint_Lint_Lint_slices_Equal_Lint_int_eq, cdn]
  by_cases hl : a.length = b.length
  · rw [if_pos (by omega), show ((0 : Int) = ((0 : Nat) : Int)) from rfl, equals_loop N (by omega) a b hl hm hi a.length 0 N (by omega) (by have := Fu_eq; omega), ob, List.drop_zero, List.drop_zero]
    by_cases h : a = b <;> simp [h]
  · rw [if_neg (by omega)]
    have : ¬ a = b := fun e => hl (by rw [e])
    simp [this]
theorem lists_loop (N : Nat) (hN : Fu + 1 ≤ N) (a b : List (List Int)) (hl : a.length = b.length) (hm : a.length ≤ 9223372036854775807) (hi : ∀ x ∈ a, x.length ≤ 9223372036854775807) : ∀ (k i m : Nat), i + k = a.length → k < m →
    l_ref14_Lists_1 N m (a, b, (i : Int)) = some (if a.drop i = b.drop i then .inl () else .inr false)
  | k, i, 0, h1, h2 => by omega
  | 0, i, m + 1, h1, h2 => by
    rw [l_ref14_Lists_1_s, cd, if_neg (by omega), List.drop_eq_nil_of_le (by omega), List.drop_eq_nil_of_le (by omega), if_pos rfl]
  | k + 1, i, m + 1, h1, h2 => by
    obtain ⟨x, hx⟩ := get_at (xs := a) (i := i) (by omega)
    obtain ⟨y, hy⟩ := get_at (xs := b) (i := i) (by omega)
    rw [l_ref14_Lists_1_s, cd, if_pos (by omega), nth_of hx, ob, nth_of hy, ob, ints_eq N hN x y (hi x (List.mem_of_getElem? hx)), ob, cdn, w64n (by omega), lists_loop N hN a b hl hm hi k (i + 1) m (by omega) (by omega), drop_at hx, drop_at hy]
    by_cases h : x = y
    · simp [h]
    · simp [h]
theorem lists_eq (N : Nat) (hN : Fu + 2 ≤ N) (a b : List (List Int)) (hm : a.length ≤ 9223372036854775807) (hi : ∀ x ∈ a, x.length ≤ 9223372036854775807) : m_ref14_Lists N (a, b) = some (decide (a = b)) := by
  obtain ⟨N, rfl⟩ : ∃ n, N = n + 1 := ⟨N - 1, by omega⟩
  rw [m_ref14_Lists_eq, cdn]
  by_cases hl : a.length = b.length
  · rw [if_pos (by omega), show ((0 : Int) = ((0 : Nat) : Int)) from rfl, lists_loop N (by omega) a b hl hm hi a.length 0 N (by omega) (by have := Fu_eq; omega), ob, List.drop_zero, List.drop_zero]
    by_cases h : a = b <;> simp [h]
  · rw [if_neg (by omega)]
    have : ¬ a = b := fun e => hl (by rw [e])
    simp [this]
end Go.Proofs.Ytdahghkmejnlgaa
end
section
set_option linter.unusedVariables false
set_option linter.unusedSimpArgs false
namespace Go.Proofs.Ytdahghkmejnlgaa
open Go Go.RowKit
/-- from a start on, the first that is so; so many are looked at -/
def srch (p : Nat → Bool) : Nat → Nat → Nat
  | 0, k => k
  | f + 1, k => if p k then k else srch p f (k + 1)
theorem srch_ok (p : Nat → Bool) : ∀ (f k d : Nat), k ≤ d → d < k + f → p d = true → p (srch p f k) = true ∧ k ≤ srch p f k ∧ srch p f k ≤ d ∧ ∀ e, k ≤ e → e < srch p f k → p e = false
  | 0, k, d, h1, h2, h3 => by omega
  | f + 1, k, d, h1, h2, h3 => by
    simp only [srch]
    by_cases h : p k = true
    · rw [if_pos h]
      exact ⟨h, Nat.le_refl _, h1, fun e h4 h5 => by omega⟩
    · rw [if_neg h]
      have hk : k ≠ d := fun e => h (e ▸ h3)
      obtain ⟨a, b, c, e1⟩ := srch_ok p f (k + 1) d (by omega) (by omega) h3
      refine ⟨a, by omega, c, fun e h4 h5 => ?_⟩
      by_cases he : e = k
      · subst he; simpa using h
      · exact e1 e (by omega) h5
def hAt (hs : List Int) (j : Nat) : Int := hs.getD j 0
def dist (hs : List Int) (i h : Nat) : Nat := srch (fun d => decide ((h : Int) < hAt hs ((i + d) % hs.length))) hs.length 1
def linkOf (hs : List Int) (i h : Nat) : Int := (((i + dist hs i h) % hs.length : Nat) : Int)
def linksOf (hs : List Int) (i : Nat) : List Int := (List.range (hAt hs i).toNat).map (linkOf hs i)
def nextOf (hs : List Int) : List (List Int) := (List.range hs.length).map (linksOf hs)
def HighR (hs : List Int) : Prop := ∀ h ∈ hs, 1 ≤ h ∧ h ≤ 8
instance (hs : List Int) : Decidable (HighR hs) := by unfold HighR; exact inferInstance
def TowR (ts hs : List Int) : Prop := ts ≠ [] ∧ hs.length = ts.length ∧ RingR ts ∧ HighR hs
instance (ts hs : List Int) : Decidable (TowR ts hs) := by unfold TowR; exact inferInstance
def buildOf (ts hs : List Int) : Int × List Int × List Int × List (List Int) := if TowR ts hs then (0, ts, hs, nextOf hs) else (1, [], [], [])
theorem hAt_of {hs : List Int} {j : Nat} {x : Int} (h : hs[j]? = some x) : hAt hs j = x := by simp [hAt, h]
theorem hAt_get {hs : List Int} {j : Nat} (h : j < hs.length) : hs[j]? = some (hAt hs j) := by
  obtain ⟨x, hx⟩ := get_at h
  rw [hAt_of hx, hx]
theorem high_at {hs : List Int} (hh : HighR hs) {j : Nat} (h : j < hs.length) : 1 ≤ hAt hs j ∧ hAt hs j ≤ 8 := hh _ (List.mem_of_getElem? (hAt_get h))
theorem dist_ok {hs : List Int} {i h : Nat} (hi : i < hs.length) (hh : (h : Int) < hAt hs i) :
    (h : Int) < hAt hs ((i + dist hs i h) % hs.length) ∧ 1 ≤ dist hs i h ∧ dist hs i h ≤ hs.length ∧ ∀ e, 1 ≤ e → e < dist hs i h → ¬ (h : Int) < hAt hs ((i + e) % hs.length) := by
  have hd : (i + hs.length) % hs.length = i := by rw [Nat.add_mod_right, Nat.mod_eq_of_lt hi]
  obtain ⟨a, b, c, d⟩ := srch_ok (fun d => decide ((h : Int) < hAt hs ((i + d) % hs.length))) hs.length 1 hs.length (by omega) (by omega) (by simp only [hd]; simpa using hh)
  exact ⟨by simpa [dist] using a, b, c, fun e h1 h2 => by simpa using d e h1 h2⟩
theorem high_eq (N : Nat) (hN : Fu ≤ N) (h : Int) : m_tower_high N h = some (decide (1 ≤ h ∧ h ≤ 8)) := by
  obtain ⟨N, rfl⟩ : ∃ n, N = n + 1 := ⟨N - 1, by have := Fu_eq; omega⟩
  rw [m_tower_high_eq, cd]
  by_cases h1 : 1 ≤ h
  · rw [if_pos h1]; simp [h1]
  · rw [if_neg h1]; simp [h1]
theorem odd_eq (N : Nat) (hN : Fu + 1 ≤ N) (h : Int) : m_tower_BuildF1 N h = some (decide (¬ (1 ≤ h ∧ h ≤ 8))) := by
  obtain ⟨N, rfl⟩ : ∃ n, N = n + 1 := ⟨N - 1, by omega⟩
  rw [m_tower_BuildF1_eq, high_eq N (by omega), ob]
  congr 1
  by_cases hh : 1 ≤ h ∧ h ≤ 8 <;> simp [hh]
theorem oddf_loop (N : Nat) (hN : Fu + 1 ≤ N) (l : List Int) (hm : l.length ≤ 9223372036854775807) : ∀ (k i m : Nat), i + k = l.length → k < m →
    ∃ j : Nat, l_slices_IndexFunc_Lint_int_tower_BuildF1_1 N m (l, ((l.length : Nat) : Int), (i : Int)) = some (if HighR (l.drop i) then .inl () else .inr (j : Int))
  | k, i, 0, h1, h2 => by omega
  | 0, i, m + 1, h1, h2 => by
    refine ⟨0, ?_⟩
    rw [l_slices_IndexFunc_Lint_int_tower_BuildF1_1_s, cd, if_neg (by omega), List.drop_eq_nil_of_le (by omega), if_pos (by intro t h; cases h)]
  | k + 1, i, m + 1, h1, h2 => by
    obtain ⟨x, hx⟩ := get_at (xs := l) (i := i) (by omega)
    obtain ⟨j, ih⟩ := oddf_loop N hN l hm k (i + 1) m (by omega) (by omega)
    rw [l_slices_IndexFunc_Lint_int_tower_BuildF1_1_s, cd, if_pos (by omega), nth_of hx, ob, odd_eq N hN x, ob, cd, w64n (by omega), ih, drop_at hx]
    by_cases h : 1 ≤ x ∧ x ≤ 8
    · refine ⟨j, ?_⟩
      rw [if_neg (fun e => e h)]
      have : HighR (x :: l.drop (i + 1)) ↔ HighR (l.drop (i + 1)) := ⟨fun e t ht => e t (by simp [ht]), fun e t ht => by
        rcases List.mem_cons.1 ht with rfl | ht
        · exact h
        · exact e t ht⟩
      by_cases h3 : HighR (l.drop (i + 1))
      · rw [if_pos h3, if_pos (this.2 h3)]
      · rw [if_neg h3, if_neg (fun e => h3 (this.1 e))]
    · refine ⟨i, ?_⟩
      rw [if_pos h, if_neg (fun e => h (e x (by simp)))]
theorem oddf_eq (N : Nat) (hN : Fu + 3 ≤ N) (l : List Int) (hm : l.length ≤ 9223372036854775807) : m_slices_ContainsFunc_Lint_int_tower_BuildF1 N l = some (!decide (HighR l)) := by
  obtain ⟨N, rfl⟩ : ∃ n, N = n + 2 := ⟨N - 2, by omega⟩
  rw [m_slices_ContainsFunc_Lint_int_tower_BuildF1_eq, m_slices_IndexFunc_Lint_int_tower_BuildF1_eq]
  obtain ⟨j, h⟩ := oddf_loop N (by omega) l hm l.length 0 N (by omega) (by have := Fu_eq; omega)
  rw [show ((0 : Int) = ((0 : Nat) : Int)) from rfl, h, List.drop_zero]
  by_cases hT : HighR l <;> simp [ob, hT]
/-- the place that is come by k-th -/
def plc (n k : Nat) : Nat := n - 1 - k % n
def lastV (hs : List Int) : Nat → Nat → Int
  | 0, _ => 0
  | k + 1, h => if (h : Int) < hAt hs (plc hs.length k) then (plc hs.length k : Nat) else lastV hs k h
def behL (hs : List Int) (k : Nat) : List Int := (List.range 8).map (lastV hs k)
def rowL (hs : List Int) (i : Nat) : List Int := (List.range (hAt hs i).toNat).map (lastV hs (2 * hs.length - 1 - i))
def nxL (hs : List Int) (k : Nat) : List (List Int) := (List.range hs.length).map fun i => if 2 * hs.length ≤ k + i then rowL hs i else []
theorem lastV_unroll (hs : List Int) (h : Nat) : ∀ (d k : Nat), 1 ≤ d → d ≤ k → (h : Int) < hAt hs (plc hs.length (k - d)) → (∀ e, 1 ≤ e → e < d → ¬ (h : Int) < hAt hs (plc hs.length (k - e))) → lastV hs k h = ((plc hs.length (k - d) : Nat) : Int)
  | d, 0, h1, h2, _, _ => by omega
  | d, k + 1, h1, h2, h3, h4 => by
    simp only [lastV]
    by_cases hd : d = 1
    · subst hd
      rw [Nat.add_sub_cancel] at h3 ⊢
      rw [if_pos h3]
    · have h5 := h4 1 (by omega) (by omega)
      rw [Nat.add_sub_cancel] at h5
      rw [if_neg h5]
      have := lastV_unroll hs h (d - 1) k (by omega) (by omega) (by rw [show k - (d - 1) = k + 1 - d by omega]; exact h3) (fun e e1 e2 => by
        have := h4 (e + 1) (by omega) (by omega)
        rw [show k + 1 - (e + 1) = k - e by omega] at this
        exact this)
      rw [this, show k - (d - 1) = k + 1 - d by omega]
theorem plc_back {n i d : Nat} (hn : 0 < n) (hi : i < n) (hd : d ≤ n) : plc n (2 * n - 1 - i - d) = (i + d) % n := by
  unfold plc
  by_cases h : i + d < n
  · rw [Nat.mod_eq_of_lt h, show 2 * n - 1 - i - d = (n - 1 - i - d) + n by omega, Nat.add_mod_right, Nat.mod_eq_of_lt (by omega)]
    omega
  · rw [show i + d = (i + d - n) + n by omega, Nat.add_mod_right, Nat.mod_eq_of_lt (a := i + d - n) (by omega), Nat.mod_eq_of_lt (by omega)]
    omega
theorem row_links {hs : List Int} {i : Nat} (hi : i < hs.length) : rowL hs i = linksOf hs i := by
  unfold rowL linksOf
  refine List.map_congr_left fun h hh => ?_
  have hh := List.mem_range.1 hh
  have hlt : (h : Int) < hAt hs i := by omega
  obtain ⟨a, b, c, d⟩ := dist_ok hi hlt
  have e : ∀ x, x ≤ hs.length → plc hs.length (2 * hs.length - 1 - i - x) = (i + x) % hs.length := fun x hx => plc_back (by omega) hi hx
  rw [lastV_unroll hs h (dist hs i h) (2 * hs.length - 1 - i) b (by omega) (by rw [e _ c]; exact a) (fun x h1 h2 => by rw [e x (by omega)]; exact d x h1 h2), e _ c]
  rfl
theorem nxL_all (hs : List Int) : nxL hs (2 * hs.length) = nextOf hs := by
  unfold nxL nextOf
  refine List.map_congr_left fun i hi => ?_
  rw [if_pos (by omega), row_links (List.mem_range.1 hi)]
theorem nxL_zero (hs : List Int) (k : Nat) (hk : k ≤ hs.length) : nxL hs k = List.replicate hs.length [] := by
  unfold nxL
  refine List.eq_replicate_iff.2 ⟨by simp, fun x hx => ?_⟩
  obtain ⟨i, hi, rfl⟩ := List.mem_map.1 hx
  have := List.mem_range.1 hi
  rw [if_neg (by omega)]
theorem set_map {α : Type} (n i : Nat) (f : Nat → α) (x : α) : List.set ((List.range n).map f) i x = (List.range n).map fun j => if j = i then x else f j := by
  refine List.ext_getElem? fun j => ?_
  rw [List.getElem?_set, List.getElem?_map, List.length_map, List.length_range, List.getElem?_map]
  by_cases hj : j < n
  · rw [List.getElem?_range hj]
    by_cases h : i = j
    · subst h; simp [hj]
    · have h' : ¬ j = i := fun e => h e.symm
      simp [h, h']
  · have hnone : (List.range n)[j]? = none := List.getElem?_eq_none (by simpa using hj)
    rw [hnone]
    by_cases h : i = j
    · subst h; simp [hj]
    · simp [h]
theorem map_get {α : Type} (n i : Nat) (f : Nat → α) (h : i < n) : ((List.range n).map f)[i]? = some (f i) := by
  rw [List.getElem?_map, List.getElem?_range h]; rfl
theorem b3 (N : Nat) (hs t3 t4 : List Int) (nx : List (List Int)) (n v42 v43 i : Int) (H : Nat) (hH : H ≤ 8) : ∀ (k h m : Nat) (f : Nat → Int), h + k = H → k < m →
    l_tower_Build_3 N m (hs, n, i, v42, v43, (H : Int), (h : Int), (List.range 8).map f, t3, t4, nx) = some (hs, n, v42, v43, (List.range 8).map (fun j => if h ≤ j ∧ j < H then i else f j), t3, t4, nx)
  | k, h, 0, f, h1, h2 => by omega
  | 0, h, m + 1, f, h1, h2 => by
    rw [l_tower_Build_3_s, cd, if_neg (by omega)]
    have : (List.range 8).map (fun j => if h ≤ j ∧ j < H then i else f j) = (List.range 8).map f := List.map_congr_left fun j _ => if_neg (by omega)
    rw [this]
  | k + 1, h, m + 1, f, h1, h2 => by
    have hg := map_get 8 h f (by omega)
    rw [l_tower_Build_3_s, cd, if_pos (by omega), nth_of (x := h) (List.getElem?_range (by omega)), ob, nth_of hg, ob, ob, w64n (by omega), Int.toNat_natCast, set_map, b3 N hs t3 t4 nx n v42 v43 i H hH k (h + 1) m _ (by omega) (by omega)]
    have : (List.range 8).map (fun j => if h + 1 ≤ j ∧ j < H then i else if j = h then i else f j) = (List.range 8).map (fun j => if h ≤ j ∧ j < H then i else f j) := List.map_congr_left fun j _ => by
      by_cases e1 : j = h
      · subst e1
        rw [if_neg (by omega), if_pos rfl, if_pos (by omega)]
      · by_cases e2 : h + 1 ≤ j ∧ j < H
        · rw [if_pos e2, if_pos (by omega)]
        · rw [if_neg e2, if_neg e1, if_neg (by omega)]
    rw [this]
theorem b2 (N m : Nat) (hN : Fu + 1 ≤ N) (hs t3 t4 : List Int) (n k i H : Nat) (v42 v43 : Int) (f : Nat → Int) (g : Nat → List Int) (hn : n = hs.length) (hi : i < n) (hH : hAt hs i = (H : Int)) (h8 : H ≤ 8) :
    l_tower_Build_2 N (m + 1) (hs, (n : Int), (k : Int), (i : Int), v42, v43, (List.range 8).map f, t3, t4, (List.range n).map g) =
      some (hs, (n : Int), (i : Int), v42, v43, (List.range 8).map f, t3, t4, (List.range n).map fun j => if n ≤ k ∧ j = i then (List.range H).map f else g j) := by
  rw [l_tower_Build_2_s, cd]
  by_cases hk : n ≤ k
  · have hx := hAt_get (hs := hs) (j := i) (by omega)
    rw [hH] at hx
    rw [if_pos (by omega), nth_of hx, ob, sub_of (by omega) (by omega) (by rw [List.length_replicate]; omega), ob]
    have e1 : (Nat.ble ((Int.toNat (0 : Int)) + (Int.toNat ((H : Int) - (0 : Int)))) (List.length ((List.range 8).map f)) && true) = true := by
      rw [Bool.and_true]
      rw [Nat.ble_eq]
      simp only [List.length_map, List.length_range]; omega
    rw [e1, cond_true]
    have e2 : List.take (Int.toNat ((H : Int) - 0)) (List.drop (Int.toNat 0) ((List.range 8).map f)) = (List.range H).map f := by
      rw [show Int.toNat 0 = 0 from rfl, List.drop_zero, ← List.map_take, List.take_range, show ((H : Int) - 0).toNat = H by omega, Nat.min_eq_left h8]
    rw [e2, clone_eq N hN _ (by simp; omega), ob, nth_of (map_get n i g hi), ob, ob, Int.toNat_natCast, set_map]
    congr 1
    have : (List.range n).map (fun j => if j = i then (List.range H).map f else g j) = (List.range n).map (fun j => if n ≤ k ∧ j = i then (List.range H).map f else g j) := List.map_congr_left fun j _ => by
      by_cases e : j = i
      · rw [if_pos e, if_pos ⟨hk, e⟩]
      · rw [if_neg e, if_neg (fun h => e h.2)]
    rw [this]
  · rw [if_neg (by omega)]
    have : (List.range n).map (fun j => if n ≤ k ∧ j = i then (List.range H).map f else g j) = (List.range n).map g := List.map_congr_left fun j _ => if_neg (fun h => hk h.1)
    rw [this]
theorem b1 (N : Nat) (hN : Fu + 1 ≤ N) (hs t3 t4 : List Int) (hh : HighR hs) (h1000 : hs.length ≤ 1000) : ∀ (j k m : Nat), k + j = 2 * hs.length → j < m →
    l_tower_Build_1 N m (hs, ((hs.length : Nat) : Int), ((2 * hs.length : Nat) : Int), (k : Int), behL hs k, t3, t4, nxL hs k) = some (t3, t4, nxL hs (2 * hs.length))
  | j, k, 0, h1, h2 => by omega
  | 0, k, m + 1, h1, h2 => by
    rw [l_tower_Build_1_s, cd, if_neg (by omega)]
    have : k = 2 * hs.length := by omega
    rw [this]
  | j + 1, k, m + 1, h1, h2 => by
    have hn : 0 < hs.length := by omega
    have hml := Nat.mod_lt k hn
    have hp : plc hs.length k < hs.length := by unfold plc; omega
    have hpe : IntKind.wrap .i64 (IntKind.wrap .i64 (((hs.length : Nat) : Int) - 1) - ((k % hs.length : Nat) : Int)) = ((plc hs.length k : Nat) : Int) := by
      rw [w64 (x := ((hs.length : Nat) : Int) - 1) (by omega) (by omega), w64 (by omega) (by omega)]
      unfold plc; omega
    obtain ⟨M, hM⟩ : ∃ M, N = M + 1 := ⟨N - 1, by omega⟩
    have hb := high_at hh hp
    obtain ⟨H, hH⟩ : ∃ H : Nat, hAt hs (plc hs.length k) = (H : Int) := ⟨_, (Int.toNat_of_nonneg (by omega)).symm⟩
    have h8 : H ≤ 8 := by omega
    have e2 := b2 N M hN hs t3 t4 hs.length k (plc hs.length k) H ((2 * hs.length : Nat) : Int) (k : Int) (lastV hs k) (fun i => if 2 * hs.length ≤ k + i then rowL hs i else []) rfl hp hH h8
    rw [← hM] at e2
    have hx := hAt_get hp
    rw [hH] at hx
    rw [l_tower_Build_1_s, cd, if_pos (by omega), rem_of (by omega), ob, tmod_nat, hpe]
    unfold behL
    rw [show nxL hs k = (List.range hs.length).map (fun i => if 2 * hs.length ≤ k + i then rowL hs i else []) from rfl, e2, ob]
    simp only
    rw [nth_of hx, ob, show ((0 : Int) = ((0 : Nat) : Int)) from rfl, b3 N hs t3 t4 _ _ _ _ _ H h8 H 0 N (lastV hs k) (by omega) (by have := Fu_eq; omega), ob]
    simp only
    rw [w64n (by omega)]
    have ea : (List.range 8).map (fun j => if 0 ≤ j ∧ j < H then ((plc hs.length k : Nat) : Int) else lastV hs k j) = behL hs (k + 1) := List.map_congr_left fun j _ => by
      simp only [lastV, hH]
      by_cases e : j < H
      · rw [if_pos ⟨Nat.zero_le _, e⟩, if_pos (by omega)]
      · rw [if_neg (fun h => e h.2), if_neg (by omega)]
    have eb : (List.range hs.length).map (fun j => if hs.length ≤ k ∧ j = plc hs.length k then (List.range H).map (lastV hs k) else if 2 * hs.length ≤ k + j then rowL hs j else []) = nxL hs (k + 1) := List.map_congr_left fun j hj => by
      have hj := List.mem_range.1 hj
      by_cases e : hs.length ≤ k ∧ j = plc hs.length k
      · obtain ⟨e1, rfl⟩ := e
        have e3 : k % hs.length = k - hs.length := by
          rw [Nat.mod_eq_sub_mod e1, Nat.mod_eq_of_lt (by omega)]
        have e4 : k = 2 * hs.length - 1 - plc hs.length k := by unfold plc; omega
        rw [if_pos ⟨e1, rfl⟩, if_pos (by omega)]
        unfold rowL
        rw [hH, Int.toNat_natCast, ← e4]
      · rw [if_neg e]
        by_cases e5 : 2 * hs.length ≤ k + j
        · rw [if_pos e5, if_pos (by omega)]
        · rw [if_neg e5, if_neg]
          intro e6
          refine e ⟨by omega, ?_⟩
          have e1 : hs.length ≤ k := by omega
          have e3 : k % hs.length = k - hs.length := by
            rw [Nat.mod_eq_sub_mod e1, Nat.mod_eq_of_lt (by omega)]
          unfold plc; omega
    rw [ea, eb]
    exact b1 N hN hs t3 t4 hh h1000 j (k + 1) m (by omega) (by omega)
theorem build_eq (N : Nat) (hN : Fu + 5 ≤ N) (ts hs : List Int) (h1 : ts.length ≤ 9223372036854775807) (h2 : hs.length ≤ 9223372036854775807) : m_tower_Build N (ts, hs) = some (buildOf ts hs) := by
  obtain ⟨N, rfl⟩ : ∃ n, N = n + 1 := ⟨N - 1, by omega⟩
  unfold buildOf
  rw [m_tower_Build_eq, cd]
  by_cases c0 : ts = []
  · subst c0; simp [TowR]
  have c0' : ¬ ts.length = 0 := fun e => c0 (List.length_eq_zero_iff.1 e)
  rw [if_neg (by omega), cdn]
  by_cases c1 : hs.length ≠ ts.length
  · rw [if_neg (by omega), if_neg (fun h => c1 h.2.1)]
  have c1 := Decidable.not_not.1 c1
  rw [if_pos (by omega), ring_eq N (by omega) ts h1, ob]
  by_cases c2 : ¬ RingR ts
  · rw [if_neg (fun h => c2 h.2.2.1)]
    simp [c2]
  have c2 := Decidable.not_not.1 c2
  rw [oddf_eq N (by omega) hs h2]
  by_cases c3 : ¬ HighR hs
  · rw [if_neg (fun h => c3 h.2.2.2)]
    simp [c2, c3, ob]
  have c3 := Decidable.not_not.1 c3
  have hlen := c2.1
  rw [if_pos ⟨c0, c1, c2, c3⟩, clone_eq N (by omega) ts (by omega), clone_eq N (by omega) hs (by omega), mak_of (by omega) (by omega) (by omega)]
  simp only [c2, c3, decide_true, Bool.not_true, cond_false, ob]
  have := b1 N (by omega) hs ts hs c3 (by omega) (2 * hs.length) 0 N (by omega) (by have := Fu_eq; omega)
  rw [nxL_zero hs 0 (by omega), show behL hs 0 = List.replicate 8 0 from rfl, nxL_all] at this
  rw [← c1, Int.toNat_natCast, w64 (x := 2 * ((hs.length : Nat) : Int)) (by omega) (by omega)]
  rw [show ((0 : Nat) : Int) = 0 from rfl, show ((2 * hs.length : Nat) : Int) = 2 * ((hs.length : Nat) : Int) by omega] at this
  rw [this]
  rfl
end Go.Proofs.Ytdahghkmejnlgaa
end
section
set_option linter.unusedVariables false
set_option linter.unusedSimpArgs false
namespace Go.Proofs.Ytdahghkmejnlgaa
open Go Go.RowKit
theorem r1 (N : Nat) (ts hs : List Int) (hm : hs.length ≤ 9223372036854775807) : ∀ (k i m : Nat), i + k = hs.length → k < m →
    l_ref14_Build_1 N m (ts, hs, ((hs.length : Nat) : Int), (i : Int)) = some (if HighR (hs.drop i) then .inl (ts, hs, ((hs.length : Nat) : Int)) else .inr 1)
  | k, i, 0, h1, h2 => by omega
  | 0, i, m + 1, h1, h2 => by
    rw [l_ref14_Build_1_s, cd, if_neg (by omega), List.drop_eq_nil_of_le (by omega), if_pos (by intro t h; cases h)]
  | k + 1, i, m + 1, h1, h2 => by
    obtain ⟨x, hx⟩ := get_at (xs := hs) (i := i) (by omega)
    rw [l_ref14_Build_1_s, cd, if_pos (by omega), nth_of hx, ob, cd, drop_at hx]
    by_cases c1 : x < 1
    · rw [if_pos c1, if_neg (fun e => by have := e x (by simp); omega)]
    rw [if_neg c1, ob, cd]
    by_cases c2 : 8 < x
    · rw [if_pos c2, if_neg (fun e => by have := e x (by simp); omega)]
    rw [if_neg c2, w64n (by omega), r1 N ts hs hm k (i + 1) m (by omega) (by omega)]
    have : HighR (x :: hs.drop (i + 1)) ↔ HighR (hs.drop (i + 1)) := ⟨fun e t ht => e t (by simp [ht]), fun e t ht => by
      rcases List.mem_cons.1 ht with rfl | ht
      · omega
      · exact e t ht⟩
    by_cases h3 : HighR (hs.drop (i + 1))
    · rw [if_pos h3, if_pos (this.2 h3)]
    · rw [if_neg h3, if_neg (fun e => h3 (this.1 e))]
theorem r4 (N : Nat) (hs : List Int) (n i h : Nat) (l v2 v3 : List Int) (v5 : List (List Int)) (hn : n = hs.length) (hi : i < n) (h1000 : n ≤ 1000) (hh : (h : Int) < hAt hs i) : ∀ (q k m : Nat), k + q = dist hs i h → 1 ≤ k → q < m →
    l_ref14_Build_4 N m (hs, (n : Int), (i : Int), (h : Int), (k : Int), l, v2, v3, v5) = some (hs, (n : Int), (i : Int), (h : Int), ((dist hs i h : Nat) : Int), l, v2, v3, v5)
  | q, k, 0, h1, h2, h3 => by omega
  | q, k, m + 1, h1, h2, h3 => by
    subst hn
    obtain ⟨d1, d2, d3, d4⟩ := dist_ok hi hh
    have hml := Nat.mod_lt (i + k) (show 0 < hs.length by omega)
    have hx := hAt_get hml
    rw [l_ref14_Build_4_s, rem_of (by omega), w64 (by omega) (by omega), show (i : Int) + (k : Int) = ((i + k : Nat) : Int) by omega, tmod_nat, ob, nth_of hx, ob, cd]
    cases q with
    | zero =>
      have : k = dist hs i h := by omega
      subst this
      rw [if_neg (by omega)]
    | succ q =>
      rw [if_pos (by have := d4 k h2 (by omega); omega), w64n (by omega)]
      exact r4 N hs hs.length i h l v2 v3 v5 rfl hi h1000 hh q (k + 1) m (by omega) (by omega) (by omega)
theorem r3 (N : Nat) (hN : Fu + 1 ≤ N) (hs : List Int) (n i H : Nat) (v2 v3 : List Int) (v5 : List (List Int)) (hn : n = hs.length) (hi : i < n) (h1000 : n ≤ 1000) (hH : hAt hs i = (H : Int)) (h8 : H ≤ 8) : ∀ (q h m : Nat), h + q = H → q < m →
    l_ref14_Build_3 N m (hs, (n : Int), (i : Int), (h : Int), (List.range h).map (linkOf hs i), v2, v3, v5) = some (hs, (n : Int), (i : Int), (List.range H).map (linkOf hs i), v2, v3, v5)
  | q, h, 0, h1, h2 => by omega
  | 0, h, m + 1, h1, h2 => by
    subst hn
    have hx := hAt_get hi
    rw [hH] at hx
    rw [l_ref14_Build_3_s, nth_of hx, ob, cd, if_neg (by omega)]
    have : h = H := by omega
    rw [this]
  | q + 1, h, m + 1, h1, h2 => by
    subst hn
    have hx := hAt_get hi
    rw [hH] at hx
    obtain ⟨d1, d2, d3, d4⟩ := dist_ok (h := h) hi (by omega)
    rw [l_ref14_Build_3_s, nth_of hx, ob, cd, if_pos (by omega), show ((1 : Int) = ((1 : Nat) : Int)) from rfl, r4 N hs hs.length i h _ v2 v3 v5 rfl hi h1000 (by omega) (dist hs i h - 1) 1 N (by omega) (by omega) (by have := Fu_eq; omega), ob]
    simp only
    rw [w64 (x := (i : Int) + ((dist hs i h : Nat) : Int)) (by omega) (by omega), rem_of (by omega), show (i : Int) + ((dist hs i h : Nat) : Int) = ((i + dist hs i h : Nat) : Int) by omega, tmod_nat, ob, app_of (by omega) (by simp; omega), ob, show (h : Int) + ((1 : Nat) : Int) = (h : Int) + 1 from rfl, w64n (by omega)]
    have : (List.range h).map (linkOf hs i) ++ [(((i + dist hs i h) % hs.length : Nat) : Int)] = (List.range (h + 1)).map (linkOf hs i) := by
      rw [List.range_succ, List.map_append]; rfl
    rw [this]
    exact r3 N hN hs hs.length i H v2 v3 v5 rfl hi h1000 hH h8 q (h + 1) m (by omega) (by omega)
theorem r2 (N : Nat) (hN : Fu + 1 ≤ N) (hs v2 v3 : List Int) (hh : HighR hs) (h1000 : hs.length ≤ 1000) : ∀ (q i m : Nat), i + q = hs.length → q < m →
    l_ref14_Build_2 N m (hs, ((hs.length : Nat) : Int), (i : Int), v2, v3, (List.range i).map (linksOf hs)) = some (v2, v3, nextOf hs)
  | q, i, 0, h1, h2 => by omega
  | 0, i, m + 1, h1, h2 => by
    rw [l_ref14_Build_2_s, cd, if_neg (by omega)]
    have : i = hs.length := by omega
    rw [this]; rfl
  | q + 1, i, m + 1, h1, h2 => by
    have hb := high_at hh (j := i) (by omega)
    obtain ⟨H, hH⟩ : ∃ H : Nat, hAt hs i = (H : Int) := ⟨_, (Int.toNat_of_nonneg (by omega)).symm⟩
    have := r3 N hN hs hs.length i H v2 v3 ((List.range i).map (linksOf hs)) rfl (by omega) h1000 hH (by omega) H 0 N (by omega) (by have := Fu_eq; omega)
    rw [show (List.range 0).map (linkOf hs i) = [] from rfl] at this
    rw [l_ref14_Build_2_s, cd, if_pos (by omega), show ((0 : Int) = ((0 : Nat) : Int)) from rfl, this, ob]
    simp only
    rw [app_of (by omega) (by simp; omega), ob, w64n (by omega)]
    have e : (List.range i).map (linksOf hs) ++ [(List.range H).map (linkOf hs i)] = (List.range (i + 1)).map (linksOf hs) := by
      rw [List.range_succ, List.map_append]
      simp only [List.map_cons, List.map_nil, linksOf, hH, Int.toNat_natCast]
    rw [e]
    exact r2 N hN hs v2 v3 hh h1000 q (i + 1) m (by omega) (by omega)
theorem rbuild_eq (N : Nat) (hN : Fu + 5 ≤ N) (ts hs : List Int) (h1 : ts.length ≤ 9223372036854775807) (h2 : hs.length ≤ 9223372036854775807) : m_ref14_Build N (ts, hs) = some (buildOf ts hs) := by
  obtain ⟨N, rfl⟩ : ∃ n, N = n + 1 := ⟨N - 1, by omega⟩
  unfold buildOf
  rw [m_ref14_Build_eq, rring_eq N (by omega) ts h1, ob]
  by_cases c2 : ¬ RingR ts
  · rw [if_neg (fun h => c2 h.2.2.1)]
    simp [c2]
  have c2 := Decidable.not_not.1 c2
  simp only [c2, decide_true, Bool.not_true, cond_false]
  rw [cd]
  by_cases c0 : ts = []
  · subst c0; simp [TowR]
  have c0' : ¬ ts.length = 0 := fun e => c0 (List.length_eq_zero_iff.1 e)
  rw [if_neg (by omega), cdn]
  by_cases c1 : hs.length ≠ ts.length
  · rw [if_neg (by omega), if_neg (fun h => c1 h.2.1)]
  have c1 := Decidable.not_not.1 c1
  have hlen := c2.1
  rw [if_pos (by omega), ← c1, show ((0 : Int) = ((0 : Nat) : Int)) from rfl, r1 N ts hs h2 hs.length 0 N (by omega) (by have := Fu_eq; omega), ob, List.drop_zero]
  by_cases c3 : ¬ HighR hs
  · rw [if_neg c3, if_neg (fun h => c3 h.2.2.2)]
  have c3 := Decidable.not_not.1 c3
  rw [if_pos c3, if_pos ⟨c0, c1, c2, c3⟩]
  simp only
  have := r2 N (by omega) hs ts hs c3 (by omega) hs.length 0 N (by omega) (by have := Fu_eq; omega)
  rw [app_of (by omega) (by simp; omega), ob, app_of (by omega) (by simp; omega), ob, List.nil_append, List.nil_append]
  rw [show (List.range 0).map (linksOf hs) = [] from rfl] at this
  rw [this]
  rfl
/-- lists that a world can hold -/
def Lens (t : List Int × List Int × List (List Int)) : Prop := t.1.length ≤ 9223372036854775807 ∧ t.2.1.length ≤ 9223372036854775807 ∧ t.2.2.length ≤ 9223372036854775807 ∧ ∀ x ∈ t.2.2, x.length ≤ 9223372036854775807
theorem same_eq (N : Nat) (hN : Fu + 3 ≤ N) (a a2 : List Int) (a3 : List (List Int)) (b b2 : List Int) (b3 : List (List Int)) (h : Lens (a, a2, a3)) : m_tower_Same N (a, a2, a3, b, b2, b3) = some (decide ((a, a2, a3) = (b, b2, b3))) := by
  obtain ⟨N, rfl⟩ : ∃ n, N = n + 1 := ⟨N - 1, by omega⟩
  obtain ⟨h1, h2, h3, h4⟩ := h
  rw [m_tower_Same_eq, equal_eq N (by omega) a b h1, equal_eq N (by omega) a2 b2 h2, equals_eq N (by omega) a3 b3 h3 h4, ob, ob]
  by_cases c1 : a = b <;> by_cases c2 : a2 = b2 <;> by_cases c3 : a3 = b3 <;> simp [c1, c2, c3, ob]
theorem rsame_eq (N : Nat) (hN : Fu + 3 ≤ N) (a a2 : List Int) (a3 : List (List Int)) (b b2 : List Int) (b3 : List (List Int)) (h : Lens (a, a2, a3)) : m_ref14_Same N (a, a2, a3, b, b2, b3) = some (decide ((a, a2, a3) = (b, b2, b3))) := by
  obtain ⟨N, rfl⟩ : ∃ n, N = n + 1 := ⟨N - 1, by omega⟩
  obtain ⟨h1, h2, h3, h4⟩ := h
  rw [m_ref14_Same_eq, ints_eq N (by omega) a b h1, ints_eq N (by omega) a2 b2 h2, lists_eq N (by omega) a3 b3 h3 h4, ob, ob]
  by_cases c1 : a = b <;> by_cases c2 : a2 = b2 <;> by_cases c3 : a3 = b3 <;> simp [c1, c2, c3, ob]
theorem next_len {hs x : List Int} (hh : HighR hs) (hx : x ∈ nextOf hs) : x.length ≤ 8 := by
  unfold nextOf at hx
  obtain ⟨i, hi, rfl⟩ := List.mem_map.1 hx
  have := high_at hh (List.mem_range.1 hi)
  simp only [linksOf, List.length_map, List.length_range]
  omega
theorem build_lens {ts hs : List Int} (h : TowR ts hs) : Lens (ts, hs, nextOf hs) := by
  have h1 := h.2.2.1.1
  have h2 := h.2.1
  refine ⟨by simp only; omega, by simp only; omega, by simp only [nextOf, List.length_map, List.length_range]; omega, fun x hx => ?_⟩
  have := next_len h.2.2.2 hx
  omega
def TowerR (t t2 : List Int) (t3 : List (List Int)) : Prop := TowR t t2 ∧ t3 = nextOf t2
instance (t t2 : List Int) (t3 : List (List Int)) : Decidable (TowerR t t2 t3) := by unfold TowerR; exact inferInstance
theorem tright_eq (N : Nat) (hN : Fu + 6 ≤ N) (t t2 : List Int) (t3 : List (List Int)) (h1 : t.length ≤ 9223372036854775807) (h2 : t2.length ≤ 9223372036854775807) : m_tower_Right N (t, t2, t3) = some (decide (TowerR t t2 t3)) := by
  obtain ⟨N, rfl⟩ : ∃ n, N = n + 1 := ⟨N - 1, by omega⟩
  rw [m_tower_Right_eq, build_eq N (by omega) t t2 h1 h2, ob]
  unfold buildOf
  by_cases h : TowR t t2
  · rw [if_pos h]
    simp only
    rw [same_eq N (by omega) _ _ _ _ _ _ (build_lens h), ob]
    by_cases c : t3 = nextOf t2
    · have : TowerR t t2 t3 := ⟨h, c⟩
      subst c
      simp [this]
    · have : ¬ TowerR t t2 t3 := fun e => c e.2
      have c' : ¬ nextOf t2 = t3 := fun e => c e.symm
      simp [c', this]
  · rw [if_neg h]
    have : ¬ TowerR t t2 t3 := fun e => h e.1
    simp [this]
theorem rright_eq (N : Nat) (hN : Fu + 6 ≤ N) (t t2 : List Int) (t3 : List (List Int)) (h1 : t.length ≤ 9223372036854775807) (h2 : t2.length ≤ 9223372036854775807) : m_ref14_Right N (t, t2, t3) = some (decide (TowerR t t2 t3)) := by
  obtain ⟨N, rfl⟩ : ∃ n, N = n + 1 := ⟨N - 1, by omega⟩
  rw [m_ref14_Right_eq, rbuild_eq N (by omega) t t2 h1 h2, ob]
  unfold buildOf
  by_cases h : TowR t t2
  · rw [if_pos h]
    simp only
    rw [rsame_eq N (by omega) _ _ _ _ _ _ (build_lens h), ob]
    by_cases c : t3 = nextOf t2
    · have : TowerR t t2 t3 := ⟨h, c⟩
      subst c
      simp [this]
    · have : ¬ TowerR t t2 t3 := fun e => c e.2
      have c' : ¬ nextOf t2 = t3 := fun e => c e.symm
      simp [c', this]
  · rw [if_neg h]
    have : ¬ TowerR t t2 t3 := fun e => h e.1
    simp [this]
end Go.Proofs.Ytdahghkmejnlgaa
end
section
set_option linter.unusedVariables false
set_option linter.unusedSimpArgs false
namespace Go.Proofs.Ytdahghkmejnlgaa
open Go Go.RowKit
theorem min_loop (N : Nat) (xs : List Int) (hm : xs.length ≤ 9223372036854775807) : ∀ (k i m : Nat) (a : Int), i + k = xs.length → k < m →
    l_slices_Min_Lint_int_1 N m (xs, a, (i : Int)) = some ((xs.drop i).foldl (fun a z => if z < a then z else a) a)
  | k, i, 0, a, h1, h2 => by omega
  | 0, i, m + 1, a, h1, h2 => by
    rw [l_slices_Min_Lint_int_1_s, cd, if_neg (by omega), List.drop_eq_nil_of_le (by omega)]; rfl
  | k + 1, i, m + 1, a, h1, h2 => by
    obtain ⟨x, hx⟩ := get_at (xs := xs) (i := i) (by omega)
    rw [l_slices_Min_Lint_int_1_s, cd, if_pos (by omega), nth_of hx, ob, w64n (by omega), min_loop N xs hm k (i + 1) m _ (by omega) (by omega), drop_at hx]; rfl
theorem max_loop (N : Nat) (xs : List Int) (hm : xs.length ≤ 9223372036854775807) : ∀ (k i m : Nat) (a : Int), i + k = xs.length → k < m →
    l_slices_Max_Lint_int_1 N m (xs, a, (i : Int)) = some ((xs.drop i).foldl (fun a z => if z > a then z else a) a)
  | k, i, 0, a, h1, h2 => by omega
  | 0, i, m + 1, a, h1, h2 => by
    rw [l_slices_Max_Lint_int_1_s, cd, if_neg (by omega), List.drop_eq_nil_of_le (by omega)]; rfl
  | k + 1, i, m + 1, a, h1, h2 => by
    obtain ⟨x, hx⟩ := get_at (xs := xs) (i := i) (by omega)
    rw [l_slices_Max_Lint_int_1_s, cd, if_pos (by omega), nth_of hx, ob, w64n (by omega), max_loop N xs hm k (i + 1) m _ (by omega) (by omega), drop_at hx]; rfl
def minL : List Int → Int
  | [] => 0
  | x :: xs => xs.foldl (fun a z => if z < a then z else a) x
def maxL : List Int → Int
  | [] => 0
  | x :: xs => xs.foldl (fun a z => if z > a then z else a) x
theorem min_eq (N : Nat) (hN : Fu + 1 ≤ N) (xs : List Int) (h0 : xs ≠ []) (hm : xs.length ≤ 9223372036854775807) : m_slices_Min_Lint_int N xs = some (minL xs) := by
  obtain ⟨N, rfl⟩ : ∃ n, N = n + 1 := ⟨N - 1, by omega⟩
  cases xs with
  | nil => exact absurd rfl h0
  | cons x xs =>
    rw [m_slices_Min_Lint_int_eq, cd, if_neg (by simp; omega), show ((0 : Int) = ((0 : Nat) : Int)) from rfl, nth_of (x := x) rfl, ob, ob_id, show ((1 : Int) = ((1 : Nat) : Int)) from rfl, min_loop N (x :: xs) hm xs.length 1 N x (by simp; omega) (by have := Fu_eq; simp at hm; omega)]
    rfl
theorem max_eq (N : Nat) (hN : Fu + 1 ≤ N) (xs : List Int) (h0 : xs ≠ []) (hm : xs.length ≤ 9223372036854775807) : m_slices_Max_Lint_int N xs = some (maxL xs) := by
  obtain ⟨N, rfl⟩ : ∃ n, N = n + 1 := ⟨N - 1, by omega⟩
  cases xs with
  | nil => exact absurd rfl h0
  | cons x xs =>
    rw [m_slices_Max_Lint_int_eq, cd, if_neg (by simp; omega), show ((0 : Int) = ((0 : Nat) : Int)) from rfl, nth_of (x := x) rfl, ob, ob_id, show ((1 : Int) = ((1 : Nat) : Int)) from rfl, max_loop N (x :: xs) hm xs.length 1 N x (by simp; omega) (by have := Fu_eq; simp at hm; omega)]
    rfl
theorem minL_lt {xs : List Int} {b : Int} (h0 : xs ≠ []) : minL xs < b ↔ ∃ g ∈ xs, g < b := by
  cases xs with
  | nil => exact absurd rfl h0
  | cons x xs =>
    simp only [minL]
    clear h0
    induction xs generalizing x with
    | nil => simp
    | cons y xs ih =>
      rw [List.foldl_cons, ih]
      simp only [List.mem_cons, exists_eq_or_imp]
      split <;> constructor <;> intro h <;> (rcases h with h | h <;> first | omega | (simp [h]) | (rcases h with h | h <;> first | omega | simp [h]))
theorem maxL_gt {xs : List Int} {b : Int} (h0 : xs ≠ []) : b < maxL xs ↔ ∃ g ∈ xs, b < g := by
  cases xs with
  | nil => exact absurd rfl h0
  | cons x xs =>
    simp only [maxL]
    clear h0
    induction xs generalizing x with
    | nil => simp
    | cons y xs ih =>
      rw [List.foldl_cons, ih]
      simp only [List.mem_cons, exists_eq_or_imp]
      split <;> constructor <;> intro h <;> (rcases h with h | h <;> first | omega | (simp [h]) | (rcases h with h | h <;> first | omega | simp [h]))
theorem clip_eq (N : Nat) (hN : Fu + 1 ≤ N) (xs : List Int) : m_slices_Clip_Lint_int N xs = some xs := by
  obtain ⟨N, rfl⟩ : ∃ n, N = n + 1 := ⟨N - 1, by omega⟩
  rw [m_slices_Clip_Lint_int_eq, subM_all, ob, cd, if_pos rfl]
theorem index_loop (N : Nat) (xs : List Int) (v : Int) (hm : xs.length ≤ 9223372036854775807) : ∀ (k i m : Nat), i + k = xs.length → k < m →
    (v ∈ xs.drop i → ∃ j : Nat, l_slices_Index_Lint_int_1 N m (xs, v, ((xs.length : Nat) : Int), (i : Int)) = some (.inr (j : Int))) ∧ (v ∉ xs.drop i → l_slices_Index_Lint_int_1 N m (xs, v, ((xs.length : Nat) : Int), (i : Int)) = some (.inl ()))
  | k, i, 0, h1, h2 => by omega
  | 0, i, m + 1, h1, h2 => by
    rw [l_slices_Index_Lint_int_1_s, cd, if_neg (by omega), List.drop_eq_nil_of_le (by omega)]; simp
  | k + 1, i, m + 1, h1, h2 => by
    obtain ⟨x, hx⟩ := get_at (xs := xs) (i := i) (by omega)
    have ih := index_loop N xs v hm k (i + 1) m (by omega) (by omega)
    rw [l_slices_Index_Lint_int_1_s, cd, if_pos (by omega), nth_of hx, ob, cd, w64n (by omega), drop_at hx]
    by_cases h : v = x
    · rw [if_pos h]
      exact ⟨fun _ => ⟨i, rfl⟩, fun hn => absurd (by simp [h]) hn⟩
    · rw [if_neg h]
      simp only [List.mem_cons, h, false_or]
      exact ih
theorem contains_eq (N : Nat) (hN : Fu + 2 ≤ N) (xs : List Int) (v : Int) (hm : xs.length ≤ 9223372036854775807) : m_slices_Contains_Lint_int N (xs, v) = some (decide (v ∈ xs)) := by
  obtain ⟨N, rfl⟩ : ∃ n, N = n + 2 := ⟨N - 2, by omega⟩
  rw [m_slices_Contains_Lint_int_eq, m_slices_Index_Lint_int_eq]
  obtain ⟨h1, h2⟩ := index_loop N xs v hm xs.length 0 N (by omega) (by have := Fu_eq; omega)
  rw [List.drop_zero] at h1 h2
  by_cases h : v ∈ xs
  · obtain ⟨j, hj⟩ := h1 h
    rw [show ((0 : Int) = ((0 : Nat) : Int)) from rfl, hj]
    simp [ob, h]
  · rw [show ((0 : Int) = ((0 : Nat) : Int)) from rfl, h2 h]
    simp [ob, h]
def FreeR (n : Nat) (free : List Int) : Prop := (∀ f ∈ free, 0 ≤ f ∧ f < n) ∧ free.Nodup
def GensR (gens : List Int) : Prop := gens ≠ [] ∧ gens.length ≤ 1000 ∧ ∀ g ∈ gens, 0 ≤ g ∧ g ≤ 1073741824
instance (n : Nat) (free : List Int) : Decidable (FreeR n free) := by unfold FreeR; exact inferInstance
instance (gens : List Int) : Decidable (GensR gens) := by unfold GensR; exact inferInstance
def rightB (gens free : List Int) : Bool := decide (GensR gens ∧ FreeR gens.length free)
def onesM (l : List Int) : List (Int × Int) := l.map fun c => (c, 1)
theorem ones_get : ∀ (l : List Int) (c : Int), mget (.i .i64) (onesM l) c = if c ∈ l then some 1 else none
  | [], c => rfl
  | x :: l, c => by
    have e1 : onesM (x :: l) = (x, 1) :: onesM l := rfl
    rw [e1, mget]
    by_cases h : x = c
    · subst h; simp [eqV]
    · have h2 : ¬ c = x := fun hh => h hh.symm
      have h3 : eqV (.i .i64) x c = false := by simp [eqV, h]
      simp only [h3, cond_false, ones_get l c]
      simp [h2]
theorem ones_put : ∀ (l : List Int) (c : Int), c ∉ l → mput (.i .i64) (onesM l) c 1 = onesM (l ++ [c])
  | [], c, _ => rfl
  | x :: l, c, h => by
    have h1 : ¬ x = c := fun e => h (by simp [e])
    have e1 : onesM (x :: l) = (x, 1) :: onesM l := rfl
    have h3 : eqV (.i .i64) x c = false := by simp [eqV, h1]
    rw [e1, mput]
    simp only [h3, cond_false, ones_put l c (fun e => h (by simp [e]))]
    rfl
theorem put_get : ∀ (es : List (Int × Int)) (c v : Int), mget (.i .i64) (mput (.i .i64) es c v) c = some v
  | [], c, v => by simp [mput, mget, eqV]
  | (x, y) :: es, c, v => by
    rw [mput]
    by_cases h : x = c
    · subst h; simp [eqV, mget]
    · have h3 : eqV (.i .i64) x c = false := by simp [eqV, h]
      simp only [h3, cond_false, mget, put_get es c v]
theorem freeR_take {n : Nat} {free : List Int} (i : Nat) (h : FreeR n free) : FreeR n (free.take i) :=
  ⟨fun f hf => h.1 f (List.mem_of_mem_take hf), (List.take_sublist i free).nodup h.2⟩
theorem freeR_next {n i : Nat} {free : List Int} {y : Int} (h : FreeR n (free.take i)) (hy : free[i]? = some y) (h0 : 0 ≤ y) (h1 : y < n) (hn : y ∉ free.take i) : FreeR n (free.take (i + 1)) := by
  rw [take_at hy]
  refine ⟨fun f hf => ?_, ?_⟩
  · rcases List.mem_append.1 hf with hf | hf
    · exact h.1 f hf
    · simp at hf; subst hf; exact ⟨h0, h1⟩
  · rw [List.nodup_append]
    refine ⟨h.2, by simp, fun a ha b hb => ?_⟩
    simp at hb; subst hb
    rintro rfl; exact hn ha
theorem freeR_not {n i : Nat} {free : List Int} {y : Int} (hy : free[i]? = some y) (h : y < 0 ∨ (n : Int) ≤ y ∨ y ∈ free.take i) : ¬ FreeR n free := by
  intro hf
  have hm : y ∈ free := List.mem_of_getElem? hy
  have := hf.1 y hm
  rcases h with h | h | h
  · omega
  · omega
  · have h2 := (freeR_take (i + 1) hf).2
    rw [take_at hy, List.nodup_append] at h2
    exact h2.2.2 y h y (by simp) rfl
theorem right_loop (N n : Nat) (free : List Int) (hm : free.length ≤ 9223372036854775807) : ∀ (k i m : Nat), i + k = free.length → k < m → FreeR n (free.take i) →
    l_pool_Right_1 N m ((n : Int), free, ((free.length : Nat) : Int), (i : Int), onesM (free.take i)) = some (if FreeR n free then .inl () else .inr false)
  | k, i, 0, h1, h2, hf => by omega
  | 0, i, m + 1, h1, h2, hf => by
    rw [l_pool_Right_1_s, cd, if_neg (by omega)]
    rw [List.take_of_length_le (by omega)] at hf
    rw [if_pos hf]
  | k + 1, i, m + 1, h1, h2, hf => by
    obtain ⟨x, hx⟩ := get_at (xs := free) (i := i) (by omega)
    rw [l_pool_Right_1_s, cd, if_pos (by omega), nth_of hx, ob, cd]
    by_cases c1 : x < 0
    · rw [if_pos c1, if_neg (freeR_not hx (.inl c1))]
    rw [if_neg c1, cd]
    by_cases c2 : (n : Int) ≤ x
    · rw [if_pos c2, if_neg (freeR_not hx (.inr (.inl c2)))]
    rw [if_neg c2, cd, put_get, ones_get]
    by_cases c3 : x ∈ free.take i
    · rw [if_pos c3, if_neg (freeR_not hx (.inr (.inr c3)))]
      simp [w64]
    · rw [if_neg c3]
      have e1 : IntKind.wrap .i64 ((Option.getD (none : Option Int) 0) + 1) = 1 := by rw [w64] <;> simp
      rw [e1]
      simp only [Option.getD_some, Int.lt_irrefl, if_false]
      rw [ones_put _ _ c3, ← take_at hx, w64n (by omega)]
      exact right_loop N n free hm k (i + 1) m (by omega) (by omega) (freeR_next hf hx (by omega) (by omega) c3)
theorem right_eq (N : Nat) (hN : Fu + 2 ≤ N) (gens free : List Int) (hg : gens.length ≤ 9223372036854775807) (hm : free.length ≤ 9223372036854775807) : m_pool_Right N (gens, free) = some (rightB gens free) := by
  obtain ⟨N, rfl⟩ : ∃ n, N = n + 1 := ⟨N - 1, by omega⟩
  rw [m_pool_Right_eq, cd]
  unfold rightB
  by_cases c0 : gens = []
  · subst c0; simp [GensR]
  have c0' : ¬ gens.length = 0 := fun e => c0 (List.length_eq_zero_iff.1 e)
  rw [if_neg (by omega), cd]
  by_cases c1 : 1000 < gens.length
  · rw [if_pos (by omega)]
    have : ¬ GensR gens := fun h => by have := h.2.1; omega
    simp [this]
  rw [if_neg (by omega), min_eq N (by omega) gens c0 hg, ob, cd]
  by_cases c2 : minL gens < 0
  · rw [if_pos c2]
    obtain ⟨g, hg1, hg2⟩ := (minL_lt c0).1 c2
    have : ¬ GensR gens := fun h => by have := h.2.2 g hg1; omega
    simp [this]
  rw [if_neg c2, max_eq N (by omega) gens c0 hg, ob, cd]
  by_cases c3 : 1073741824 < maxL gens
  · rw [if_pos c3]
    obtain ⟨g, hg1, hg2⟩ := (maxL_gt c0).1 c3
    have : ¬ GensR gens := fun h => by have := h.2.2 g hg1; omega
    simp [this]
  rw [if_neg c3]
  have hG : GensR gens := ⟨c0, by omega, fun g hg => ⟨Int.not_lt.1 fun h => c2 ((minL_lt c0).2 ⟨g, hg, h⟩), Int.not_lt.1 fun h => c3 ((maxL_gt c0).2 ⟨g, hg, h⟩)⟩⟩
  have := right_loop N gens.length free hm free.length 0 N (by omega) (by have := Fu_eq; omega) (by simp [FreeR])
  rw [show onesM (List.take 0 free) = [] from rfl, show (((0 : Nat) : Int) = 0) from rfl] at this
  rw [this, ob]
  by_cases hF : FreeR gens.length free <;> simp [hF, hG]
theorem nodup_sub {α : Type} [DecidableEq α] : ∀ {l r : List α}, l.Nodup → (∀ x ∈ l, x ∈ r) → l.length ≤ r.length
  | [], r, _, _ => Nat.zero_le _
  | x :: l, r, hn, hs => by
    rw [List.nodup_cons] at hn
    have hx : x ∈ r := hs x (by simp)
    have := nodup_sub (l := l) (r := r.erase x) hn.2 (fun y hy => (List.mem_erase_of_ne (fun e => by subst e; exact hn.1 hy)).2 (hs y (by simp [hy])))
    rw [List.length_erase_of_mem hx] at this
    have : 0 < r.length := List.length_pos_of_mem hx
    simp only [List.length_cons]; omega
def upI (n : Nat) : List Int := (List.range n).map Int.ofNat
theorem upI_len (n : Nat) : (upI n).length = n := by simp [upI]
theorem mem_upI {n : Nat} {x : Int} : x ∈ upI n ↔ 0 ≤ x ∧ x < n := by
  simp only [upI, List.mem_map, List.mem_range]
  constructor
  · rintro ⟨a, ha, rfl⟩; simp; omega
  · rintro ⟨h0, h1⟩; exact ⟨x.toNat, by omega, by simp; omega⟩
theorem freeR_len {n : Nat} {free : List Int} (h : FreeR n free) : free.length ≤ n := by
  have := nodup_sub (r := upI n) h.2 (fun x hx => mem_upI.2 (h.1 x hx))
  rwa [upI_len] at this
theorem right_len {gens free : List Int} (h : rightB gens free = true) : gens.length ≤ 1000 ∧ free.length ≤ 1000 ∧ gens ≠ [] := by
  have := of_decide_eq_true h
  have h2 := freeR_len this.2
  exact ⟨this.1.2.1, by have := this.1.2.1; omega, this.1.1⟩
def goodB (gens free : List Int) (c g : Int) : Bool := rightB gens free && (decide (0 ≤ c) && (decide (c < gens.length) && (decide (gens.getD c.toNat 0 = g) && !decide (c ∈ free))))
theorem getD_at {gens : List Int} {i : Nat} {x : Int} (h : gens[i]? = some x) : gens.getD i 0 = x := by simp [List.getD, h]
theorem good_eq (N : Nat) (hN : Fu + 3 ≤ N) (gens free : List Int) (c g : Int) (hg : gens.length ≤ 9223372036854775807) (hm : free.length ≤ 9223372036854775807) : m_pool_Good N (gens, free, c, g) = some (goodB gens free c g) := by
  obtain ⟨N, rfl⟩ : ∃ n, N = n + 1 := ⟨N - 1, by omega⟩
  rw [m_pool_Good_eq, right_eq N (by omega) gens free hg hm, ob, cb, contains_eq N (by omega) free c hm]
  unfold goodB
  cases rightB gens free
  · simp
  by_cases h1 : 0 ≤ c
  · by_cases h2 : c < gens.length
    · obtain ⟨x, hx, hn⟩ := nth_ex h1 h2
      have hx' : gens[c.toNat]'(by omega) = x := (List.getElem?_eq_some_iff.1 hx).2
      by_cases h3 : x = g <;> simp [cd, h1, h2, hn, ob, hx', h3]
    · simp [cd, h1, h2]
  · simp [cd, h1]
def takenL (gens free : List Int) : List Int := if rightB gens free = true then (upI gens.length).filter (fun c => !decide (c ∈ free)) else []
theorem range'_split (i k : Nat) : (List.range' i (k + 1)).map Int.ofNat = (i : Int) :: (List.range' (i + 1) k).map Int.ofNat := by
  rw [List.range'_succ]; rfl
theorem upI_range' (n : Nat) : upI n = (List.range' 0 n).map Int.ofNat := by rw [upI, List.range_eq_range']
def takeP (gens free : List Int) : Int × List Int × List Int × Int × Int :=
  if rightB gens free = true then
    match free.getLast? with
    | none => (2, gens, free, 0, 0)
    | some c => if gens.getD c.toNat 0 = 1073741824 then (2, gens, free, 0, 0) else (0, gens.set c.toNat (gens.getD c.toNat 0 + 1), free.dropLast, c, gens.getD c.toNat 0 + 1)
  else (1, gens, free, 0, 0)
theorem last_at {free : List Int} (h : free ≠ []) : ∃ c, free.getLast? = some c ∧ free[free.length - 1]? = some c := by
  refine ⟨free.getLast h, List.getLast?_eq_some_getLast h, ?_⟩
  rw [← List.getLast?_eq_getElem?]
  exact List.getLast?_eq_some_getLast h
theorem right_cell {gens free : List Int} (h : rightB gens free = true) {c : Int} (hc : c ∈ free) : 0 ≤ c ∧ c < gens.length := (of_decide_eq_true h).2.1 c hc
theorem right_gen {gens free : List Int} (h : rightB gens free = true) {c : Nat} {g : Int} (hc : gens[c]? = some g) : 0 ≤ g ∧ g ≤ 1073741824 := (of_decide_eq_true h).1.2.2 g (List.mem_of_getElem? hc)
theorem take_eq (N : Nat) (hN : Fu + 3 ≤ N) (gens free : List Int) (hg : gens.length ≤ 9223372036854775807) (hm : free.length ≤ 9223372036854775807) : m_pool_Take N (gens, free) = some (takeP gens free) := by
  obtain ⟨N, rfl⟩ : ∃ n, N = n + 1 := ⟨N - 1, by omega⟩
  rw [m_pool_Take_eq, right_eq N (by omega) gens free hg hm, ob, cb]
  unfold takeP
  by_cases h : rightB gens free = true
  · obtain ⟨l1, l2, -⟩ := right_len h
    simp only [h, Bool.not_true, Bool.false_eq_true, if_false, if_true]
    rw [w64 (by omega) (by omega), cd]
    by_cases h0 : free = []
    · subst h0; simp
    have hp : 0 < free.length := List.length_pos_iff.2 h0
    rw [if_neg (by omega)]
    obtain ⟨c, hc, hc2⟩ := last_at h0
    rw [nth_at hc2 (by omega), ob, hc]
    obtain ⟨c0, c1⟩ := right_cell h (List.mem_of_getElem? hc2)
    obtain ⟨g, hg1, hn⟩ := nth_ex c0 c1
    obtain ⟨g0, g1⟩ := right_gen h hg1
    rw [hn, ob, cd]
    simp only [getD_at hg1]
    by_cases h3 : g = 1073741824
    · rw [if_pos h3, if_pos h3]
    · rw [if_neg h3, if_neg h3, ob, sub_take (by omega) (by omega), ob, clip_eq N (by omega), ob]
      have hs : (gens.set c.toNat (g + 1))[c.toNat]? = some (g + 1) := by
        rw [List.getElem?_set_self (by omega)]
      rw [clone_eq N (by omega) gens (by omega), ob, hn, ob, ob, ob, ob, w64 (by omega) (by omega), nth_at hs (by omega), ob, ob, List.dropLast_eq_take]
      have e : ((free.length : Int) - 1).toNat = free.length - 1 := by omega
      rw [e]
  · simp [h]
def giveP (gens free : List Int) (c g : Int) : Int × List Int × List Int :=
  if rightB gens free = true then (if goodB gens free c g = true then (0, gens, free ++ [c]) else (3, gens, free)) else (1, gens, free)
theorem give_eq (N : Nat) (hN : Fu + 4 ≤ N) (gens free : List Int) (c g : Int) (hg : gens.length ≤ 9223372036854775807) (hm : free.length ≤ 9223372036854775807) : m_pool_Give N (gens, free, c, g) = some (giveP gens free c g) := by
  obtain ⟨N, rfl⟩ : ∃ n, N = n + 1 := ⟨N - 1, by omega⟩
  rw [m_pool_Give_eq, right_eq N (by omega) gens free hg hm, ob, good_eq N (by omega) gens free c g hg hm]
  unfold giveP
  by_cases h : rightB gens free = true
  · obtain ⟨l1, l2, -⟩ := right_len h
    by_cases h2 : goodB gens free c g = true
    · simp only [h, h2, Bool.not_true, cond_false, ob, if_true, clip_eq N (by omega)]
      rw [app_of (by omega) (by simp; omega)]; rfl
    · have h2' : goodB gens free c g = false := by simpa using h2
      simp [h, h2', ob]
  · simp [h]
def makeP (n : Int) : Int × List Int × List Int := if n < 1 ∨ 1000 < n then (1, [], []) else (0, List.replicate n.toNat 0, (upI n.toNat).reverse)
theorem upI_rev (n : Nat) : (upI n).reverse = (List.range n).map fun i : Nat => (n : Int) - 1 - (i : Int) := by
  apply List.ext_getElem
  · simp [upI]
  · intro i h1 h2
    simp [upI] at h1 h2 ⊢
    omega
theorem make_loop (N n : Nat) (hn : n ≤ 1000) (g : List Int) : ∀ (k i m : Nat) (l : List Int), i + k = n → k < m → l.length = i →
    l_pool_Make_1 N m ((n : Int), (n : Int), (i : Int), g, l) = some (g, l ++ (List.range' i k).map fun i : Nat => (n : Int) - 1 - (i : Int))
  | k, i, 0, l, h1, h2, hl => by omega
  | 0, i, m + 1, l, h1, h2, hl => by
    rw [l_pool_Make_1_s, cd, if_neg (by omega)]; simp
  | k + 1, i, m + 1, l, h1, h2, hl => by
    rw [l_pool_Make_1_s, cd, if_pos (by omega), app_of (by omega) (by simp; omega), ob, w64n (by omega), w64 (x := (n : Int) - 1) (by omega) (by omega), w64 (by omega) (by omega)]
    rw [make_loop N n hn g k (i + 1) m _ (by omega) (by omega) (by simp; omega), List.range'_succ]
    simp
theorem make_eq (N : Nat) (hN : Fu + 1 ≤ N) (n : Int) : m_pool_Make N n = some (makeP n) := by
  obtain ⟨N, rfl⟩ : ∃ n, N = n + 1 := ⟨N - 1, by omega⟩
  rw [m_pool_Make_eq, cd, cd]
  unfold makeP
  by_cases h1 : n < 1
  · simp [h1]
  by_cases h2 : 1000 < n
  · simp [h1, h2]
  rw [if_neg h1, if_neg h2, if_neg (by omega), mak_of (by omega) (by omega) (by omega), ob]
  obtain ⟨k, rfl⟩ : ∃ k : Nat, n = k := ⟨n.toNat, by omega⟩
  have := make_loop N k (by omega) (List.replicate k 0) k 0 N [] (by omega) (by have := Fu_eq; omega) rfl
  rw [show (((0 : Nat) : Int) = 0) from rfl] at this
  simp only [Int.toNat_natCast]
  rw [this, ob, upI_rev, List.range_eq_range']
  rfl
theorem rright1_loop (N : Nat) (gens free : List Int) (hg : gens.length ≤ 1000) : ∀ (k i m : Nat), i + k = gens.length → k < m →
    l_ref02_Right_1 N m (((gens.length : Nat) : Int), (i : Int), gens, free) = some (if ∀ g ∈ gens.drop i, 0 ≤ g ∧ g ≤ 1073741824 then .inl (((gens.length : Nat) : Int), gens, free) else .inr false)
  | k, i, 0, h1, h2 => by omega
  | 0, i, m + 1, h1, h2 => by
    rw [l_ref02_Right_1_s, cd, if_neg (by omega), List.drop_eq_nil_of_le (by omega), if_pos (by simp)]
  | k + 1, i, m + 1, h1, h2 => by
    obtain ⟨x, hx⟩ := get_at (xs := gens) (i := i) (by omega)
    rw [l_ref02_Right_1_s, cd, if_pos (by omega), nth_of hx, ob, cd, ob, cd, w64n (by omega), rright1_loop N gens free hg k (i + 1) m (by omega) (by omega), drop_at hx]
    simp only [List.forall_mem_cons]
    by_cases c1 : x < 0
    · rw [if_pos c1, if_neg (by omega)]
    by_cases c2 : 1073741824 < x
    · rw [if_neg c1, if_pos c2, if_neg (by omega)]
    · rw [if_neg c1, if_neg c2]
      have c3 : 0 ≤ x ∧ x ≤ 1073741824 := by omega
      simp only [c3, true_and]
def metL (n : Nat) (l : List Int) : List Bool := (List.range n).map fun c : Nat => decide ((c : Int) ∈ l)
theorem metL_get {n : Nat} {l : List Int} {c : Nat} (h : c < n) : (metL n l)[c]? = some (decide ((c : Int) ∈ l)) := by simp [metL, h]
theorem metL_set {n : Nat} {l : List Int} {c : Nat} (h : c < n) : (metL n l).set c true = metL n (l ++ [(c : Int)]) := by
  apply List.ext_getElem
  · simp [metL]
  · intro i h1 h2
    simp [metL] at h1 h2 ⊢
    rw [List.getElem_set]
    by_cases hc : c = i
    · simp [hc]
    · have : ¬ (i : Int) = c := by omega
      simp [hc, this]
theorem rright2_loop (N n : Nat) (gens free : List Int) (hm : free.length ≤ 1000) : ∀ (k i m : Nat), i + k = free.length → k < m → FreeR n (free.take i) →
    l_ref02_Right_2 N m ((n : Int), (i : Int), gens, free, metL n (free.take i)) = some (if FreeR n free then .inl () else .inr false)
  | k, i, 0, h1, h2, hf => by omega
  | 0, i, m + 1, h1, h2, hf => by
    rw [l_ref02_Right_2_s, cd, if_neg (by omega)]
    rw [List.take_of_length_le (by omega)] at hf
    rw [if_pos hf]
  | k + 1, i, m + 1, h1, h2, hf => by
    obtain ⟨x, hx⟩ := get_at (xs := free) (i := i) (by omega)
    rw [l_ref02_Right_2_s, cd, if_pos (by omega), nth_of hx, ob, cd]
    by_cases c1 : x < 0
    · rw [if_pos c1, if_neg (freeR_not hx (.inl c1))]
    rw [if_neg c1, cd]
    by_cases c2 : (n : Int) ≤ x
    · rw [if_pos c2, if_neg (freeR_not hx (.inr (.inl c2)))]
    rw [if_neg c2]
    obtain ⟨c, rfl⟩ : ∃ c : Nat, x = c := ⟨x.toNat, by omega⟩
    have hc : c < n := by omega
    rw [nth_of (metL_get hc), ob, ob, cb]
    by_cases c3 : (c : Int) ∈ free.take i
    · rw [if_pos (by simp [c3]), if_neg (freeR_not hx (.inr (.inr c3)))]
    · rw [if_neg (by simp [c3]), ob, ob, w64n (by omega), Int.toNat_natCast, metL_set hc, ← take_at hx]
      exact rright2_loop N n gens free hm k (i + 1) m (by omega) (by omega) (freeR_next hf hx (by omega) (by omega) c3)
theorem prright_eq (N : Nat) (hN : Fu + 2 ≤ N) (gens free : List Int) (hg : gens.length ≤ 9223372036854775807) (hm : free.length ≤ 9223372036854775807) : m_ref02_Right N (gens, free) = some (rightB gens free) := by
  obtain ⟨N, rfl⟩ : ∃ n, N = n + 1 := ⟨N - 1, by omega⟩
  rw [m_ref02_Right_eq, cd]
  unfold rightB
  by_cases c0 : gens = []
  · subst c0; simp [GensR]
  have c0' : ¬ gens.length = 0 := fun e => c0 (List.length_eq_zero_iff.1 e)
  rw [if_neg (by omega), cd]
  by_cases c1 : 1000 < gens.length
  · rw [if_pos (by omega)]
    have : ¬ GensR gens := fun h => by have := h.2.1; omega
    simp [this]
  rw [if_neg (by omega), cd]
  by_cases c2 : gens.length < free.length
  · rw [if_pos (by omega)]
    have : ¬ FreeR gens.length free := fun h => by have := freeR_len h; omega
    simp [this]
  rw [if_neg (by omega)]
  have h1 := rright1_loop N gens free (by omega) gens.length 0 N (by omega) (by have := Fu_eq; omega)
  rw [show (((0 : Nat) : Int) = 0) from rfl, List.drop_zero] at h1
  rw [h1, ob]
  by_cases c3 : ∀ g ∈ gens, 0 ≤ g ∧ g ≤ 1073741824
  · have hG : GensR gens := ⟨c0, by omega, c3⟩
    rw [if_pos c3]
    simp only []
    have h2 := rright2_loop N gens.length gens free (by omega) free.length 0 N (by omega) (by have := Fu_eq; omega) (by simp [FreeR])
    have e : metL gens.length (free.take 0) = List.replicate gens.length false := by
      apply List.ext_getElem <;> simp [metL]
    rw [e, show (((0 : Nat) : Int) = 0) from rfl] at h2
    rw [mak_of (by omega) (by omega) (by omega), ob, Int.toNat_natCast, h2, ob]
    by_cases hF : FreeR gens.length free <;> simp [hF, hG]
  · have hG : ¬ GensR gens := fun h => c3 h.2.2
    rw [if_neg c3]; simp [hG]
theorem takeP_len (g f : List Int) : (takeP g f).2.1.length = g.length ∧ (takeP g f).2.2.1.length ≤ f.length := by
  unfold takeP
  split
  · split
    · simp
    · split <;> simp
  · simp
theorem giveP_len (g f : List Int) (c x : Int) : (giveP g f c x).2.1.length = g.length ∧ (giveP g f c x).2.2.length ≤ f.length + 1 := by
  unfold giveP
  split
  · split <;> simp
  · simp
theorem goodB_iff {gens free : List Int} {c g : Int} : goodB gens free c g = true ↔ rightB gens free = true ∧ 0 ≤ c ∧ c < gens.length ∧ gens.getD c.toNat 0 = g ∧ c ∉ free := by
  simp [goodB, Bool.and_eq_true]
theorem rightB_iff {gens free : List Int} : rightB gens free = true ↔ GensR gens ∧ FreeR gens.length free := by simp [rightB]
theorem getD_set {l : List Int} {c : Nat} {x : Int} (h : c < l.length) : (l.set c x).getD c 0 = x := getD_at (by rw [List.getElem?_set_self h])
theorem mem_set {l : List Int} {c : Nat} {x y : Int} (h : y ∈ l.set c x) : y = x ∨ y ∈ l := by
  rcases List.mem_or_eq_of_mem_set h with h | h
  · exact .inr h
  · exact .inl h
theorem dropLast_last {l : List Int} {c : Int} (h : l.getLast? = some c) : l = l.dropLast ++ [c] := by
  have hne : l ≠ [] := by rintro rfl; simp at h
  rw [List.getLast?_eq_some_getLast hne] at h
  have := List.dropLast_concat_getLast hne
  rw [Option.some.inj h] at this
  exact this.symm
theorem takeP_ok {gens free : List Int} (h : rightB gens free = true) {c : Int} (hc : free.getLast? = some c) (hg : gens.getD c.toNat 0 ≠ 1073741824) :
    takeP gens free = (0, gens.set c.toNat (gens.getD c.toNat 0 + 1), free.dropLast, c, gens.getD c.toNat 0 + 1) ∧ 0 ≤ c ∧ c < gens.length ∧ c ∉ free.dropLast ∧ rightB (gens.set c.toNat (gens.getD c.toNat 0 + 1)) free.dropLast = true := by
  have hm : c ∈ free := List.mem_of_getLast? hc
  obtain ⟨c0, c1⟩ := right_cell h hm
  have hh := rightB_iff.1 h
  have hf := dropLast_last hc
  have hn := hh.2.2
  rw [hf, List.nodup_append] at hn
  obtain ⟨g, hg1, hg2⟩ := nth_ex c0 c1
  have hgr := right_gen h hg1
  rw [getD_at hg1] at hg ⊢
  refine ⟨?_, c0, c1, fun hm => hn.2.2 c hm c (by simp) rfl, rightB_iff.2 ⟨⟨?_, ?_, ?_⟩, ?_, hn.1⟩⟩
  · unfold takeP
    rw [if_pos h, hc]
    simp only [getD_at hg1]
    rw [if_neg hg]
  · intro e
    have := congrArg List.length e
    simp only [List.length_set, List.length_nil] at this
    omega
  · rw [List.length_set]; exact hh.1.2.1
  · intro y hy
    rcases mem_set hy with rfl | hy
    · omega
    · exact hh.1.2.2 y hy
  · intro f hf'
    rw [List.length_set]
    exact hh.2.1 f (List.dropLast_subset free hf')
theorem giveP_ok {gens free : List Int} {c g : Int} (h : goodB gens free c g = true) : giveP gens free c g = (0, gens, free ++ [c]) ∧ rightB gens (free ++ [c]) = true := by
  have hh := goodB_iff.1 h
  have hr := rightB_iff.1 hh.1
  refine ⟨by unfold giveP; rw [if_pos hh.1, if_pos h], rightB_iff.2 ⟨hr.1, fun f hf => ?_, ?_⟩⟩
  · rcases List.mem_append.1 hf with hf | hf
    · exact hr.2.1 f hf
    · simp at hf; subst hf; exact ⟨hh.2.1, hh.2.2.1⟩
  · rw [List.nodup_append]
    refine ⟨hr.2.2, by simp, fun a ha b hb => ?_⟩
    simp at hb; subst hb
    rintro rfl; exact hh.2.2.2.2 ha
end Go.Proofs.Ytdahghkmejnlgaa
end
section
set_option linter.unusedVariables false
set_option linter.unusedSimpArgs false
namespace Go.Proofs.Ytdahghkmejnlgaa
open Go Go.RowKit
abbrev Nd := Int × (Int × List (Int × Int))
def emptyN (x : Nd) : Bool := decide (x.1 = 0) && (decide (x.2.1 = 0) && decide (x.2.2 = []))
def fullN (g f : List Int) (x : Nd) : Bool := decide (0 ≤ x.1 ∧ 1 ≤ x.2.1 ∧ x.2.1 ≤ 8 ∧ (x.2.2.length : Int) = x.2.1) && x.2.2.all fun h => goodB g f h.1 h.2
def cellOk (g f : List Int) (c : Nat) (x : Nd) : Bool := if (c : Int) ∈ f then emptyN x else fullN g f x
def cellsFrom (g f : List Int) : Nat → List Nd → Bool
  | _, [] => true
  | c, x :: xs => cellOk g f c x && cellsFrom g f (c + 1) xs
def rightS (g f : List Int) (ns : List Nd) : Bool := rightB g f && (decide (ns.length = g.length) && cellsFrom g f 0 ns)
/-- no longer than a slice can be -/
def LN (ns : List Nd) : Prop := ns.length ≤ 9223372036854775807 ∧ ∀ x ∈ ns, x.2.2.length ≤ 9223372036854775807
theorem cellsFrom_iff {g f : List Int} : ∀ {c : Nat} {ns : List Nd}, cellsFrom g f c ns = true ↔ ∀ i x, ns[i]? = some x → cellOk g f (c + i) x = true
  | c, [] => by simp [cellsFrom]
  | c, x :: xs => by
    simp only [cellsFrom, Bool.and_eq_true, cellsFrom_iff (c := c + 1) (ns := xs)]
    constructor
    · rintro ⟨h1, h2⟩ i y hy
      cases i with
      | zero => simp at hy; subst hy; exact h1
      | succ i => simp at hy; have := h2 i y hy; rwa [show c + 1 + i = c + (i + 1) by omega] at this
    · intro h
      refine ⟨h 0 x rfl, fun i y hy => ?_⟩
      have := h (i + 1) y (by simpa using hy)
      rwa [show c + (i + 1) = c + 1 + i by omega] at this
theorem empty_eq (N : Nat) (hN : Fu ≤ N) (a b : Int) (l : List (Int × Int)) : m_store_empty N (a, b, l) = some (emptyN (a, b, l)) := by
  obtain ⟨N, rfl⟩ : ∃ n, N = n + 1 := ⟨N - 1, by have := Fu_eq; omega⟩
  rw [m_store_empty_eq, cd, cd]
  unfold emptyN
  by_cases h1 : a = 0
  · by_cases h2 : b = 0
    · rw [if_pos h1, if_pos h2]
      cases l <;> simp [h1, h2]
      omega
    · rw [if_pos h1, if_neg h2]; simp [h1, h2]
  · rw [if_neg h1]; simp [h1]
theorem odd_handle (N : Nat) (hN : Fu + 4 ≤ N) (h h2 : Int) (g f : List Int) (hg : g.length ≤ 9223372036854775807) (hm : f.length ≤ 9223372036854775807) : m_store_fullF1_phh N (h, h2, g, f) = some (!goodB g f h h2, (g, f)) := by
  obtain ⟨N, rfl⟩ : ∃ n, N = n + 1 := ⟨N - 1, by omega⟩
  rw [m_store_fullF1_phh_eq, good_eq N (by omega) g f h h2 hg hm, ob]
theorem fullf_loop (N : Nat) (hN : Fu + 4 ≤ N) (g f : List Int) (hg : g.length ≤ 9223372036854775807) (hm : f.length ≤ 9223372036854775807) (l : List (Int × Int)) (hl : l.length ≤ 9223372036854775807) : ∀ (k i m : Nat), i + k = l.length → k < m →
    ∃ j : Nat, l_slices_IndexFunc_Lapi_Handle_api_Handle_store_fullF1_f74phh_1 N m (l, ((l.length : Nat) : Int), (i : Int), g, f) = some (if (l.drop i).all (fun h => goodB g f h.1 h.2) = true then .inl (g, f) else .inr ((j : Int), (g, f)))
  | k, i, 0, h1, h2 => by omega
  | 0, i, m + 1, h1, h2 => by
    refine ⟨0, ?_⟩
    rw [l_slices_IndexFunc_Lapi_Handle_api_Handle_store_fullF1_f74phh_1_s, cd, if_neg (by omega), List.drop_eq_nil_of_le (by omega), if_pos (by simp)]
  | k + 1, i, m + 1, h1, h2 => by
    obtain ⟨x, hx⟩ := get_at (xs := l) (i := i) (by omega)
    obtain ⟨j, ih⟩ := fullf_loop N hN g f hg hm l hl k (i + 1) m (by omega) (by omega)
    rw [l_slices_IndexFunc_Lapi_Handle_api_Handle_store_fullF1_f74phh_1_s, cd, if_pos (by omega), nth_of hx, ob, odd_handle N hN _ _ g f hg hm, ob, cb, w64n (by omega), ih, drop_at hx]
    cases h : goodB g f x.1 x.2 with
    | true => exact ⟨j, by rw [List.all_cons, h, Bool.true_and]; rfl⟩
    | false => exact ⟨i, by rw [List.all_cons, h, Bool.false_and]; rfl⟩
theorem fullf_eq (N : Nat) (hN : Fu + 6 ≤ N) (g f : List Int) (hg : g.length ≤ 9223372036854775807) (hm : f.length ≤ 9223372036854775807) (l : List (Int × Int)) (hl : l.length ≤ 9223372036854775807) : m_slices_ContainsFunc_Lapi_Handle_api_Handle_store_fullF1_f74phh N (l, g, f) = some (!(l.all fun h => goodB g f h.1 h.2), (g, f)) := by
  obtain ⟨N, rfl⟩ : ∃ n, N = n + 2 := ⟨N - 2, by omega⟩
  rw [m_slices_ContainsFunc_Lapi_Handle_api_Handle_store_fullF1_f74phh_eq, m_slices_IndexFunc_Lapi_Handle_api_Handle_store_fullF1_f74phh_eq]
  obtain ⟨j, hj⟩ := fullf_loop N (by omega) g f hg hm l hl l.length 0 N (by omega) (by have := Fu_eq; omega)
  rw [show ((0 : Int) = ((0 : Nat) : Int)) from rfl, hj, List.drop_zero]
  cases h : l.all fun h => goodB g f h.1 h.2 with
  | true => simp [ob]
  | false => simp [ob]
theorem full_eq (N : Nat) (hN : Fu + 7 ≤ N) (g f : List Int) (hg : g.length ≤ 9223372036854775807) (hm : f.length ≤ 9223372036854775807) (a b : Int) (l : List (Int × Int)) (hl : l.length ≤ 9223372036854775807) : m_store_full N (g, f, a, b, l) = some (fullN g f (a, b, l)) := by
  obtain ⟨N, rfl⟩ : ∃ n, N = n + 1 := ⟨N - 1, by omega⟩
  rw [m_store_full_eq, cd, cd, cd, cdn, fullf_eq N (by omega) g f hg hm l hl, ob]
  unfold fullN
  by_cases h1 : a < 0
  · rw [if_pos h1]; have : ¬ (0 ≤ a) := by omega
    simp [this]
  rw [if_neg h1]
  by_cases h2 : b < 1
  · rw [if_pos h2]; have : ¬ (1 ≤ b) := by omega
    simp [this]
  rw [if_neg h2]
  by_cases h3 : 8 < b
  · rw [if_pos h3]; have : ¬ (b ≤ 8) := by omega
    simp [this]
  rw [if_neg h3]
  by_cases h4 : ((l.length : Nat) : Int) = b
  · rw [if_pos h4]
    have : 0 ≤ a ∧ 1 ≤ b ∧ b ≤ 8 ∧ ((l.length : Nat) : Int) = b := ⟨by omega, by omega, by omega, h4⟩
    simp [this]
  · rw [if_neg h4]; simp [h4]
theorem sright_loop (N : Nat) (hN : Fu + 7 ≤ N) (g f : List Int) (hg : g.length ≤ 9223372036854775807) (hm : f.length ≤ 9223372036854775807) (ns : List Nd) (hl : LN ns) : ∀ (k i m : Nat), i + k = ns.length → k < m →
    l_store_Right_1 N m (ns, ((ns.length : Nat) : Int), (i : Int), g, f, ns) = some (if cellsFrom g f i (ns.drop i) = true then .inl () else .inr false)
  | k, i, 0, h1, h2 => by omega
  | 0, i, m + 1, h1, h2 => by
    rw [l_store_Right_1_s, cd, if_neg (by omega), List.drop_eq_nil_of_le (by omega)]; simp [cellsFrom]
  | k + 1, i, m + 1, h1, h2 => by
    obtain ⟨x, hx⟩ := get_at (xs := ns) (i := i) (by omega)
    have ih := sright_loop N hN g f hg hm ns hl k (i + 1) m (by omega) (by omega)
    have hxl := hl.2 x (List.mem_of_getElem? hx)
    have hil := hl.1
    rw [l_store_Right_1_s, cd, if_pos (by omega), nth_of hx, ob, contains_eq N (by omega) f _ hm, ob, cb, empty_eq N (by omega), ob, full_eq N hN g f hg hm _ _ _ hxl, ob, w64n (by omega), ih, drop_at hx]
    simp only [cellsFrom, cellOk]
    by_cases h : (i : Int) ∈ f
    · simp only [h, decide_true, if_true, if_pos]
      cases emptyN x <;> simp
    · simp only [h, decide_false, if_false]
      cases fullN g f x <;> simp
theorem sright_eq (N : Nat) (hN : Fu + 8 ≤ N) (g f : List Int) (hg : g.length ≤ 9223372036854775807) (hm : f.length ≤ 9223372036854775807) (ns : List Nd) (hl : LN ns) : m_store_Right N (g, f, ns) = some (rightS g f ns) := by
  obtain ⟨N, rfl⟩ : ∃ n, N = n + 1 := ⟨N - 1, by omega⟩
  rw [m_store_Right_eq, right_eq N (by omega) g f hg hm, ob, cdn]
  unfold rightS
  cases rightB g f with
  | false => rfl
  | true =>
    by_cases h : ns.length = g.length
    · have := sright_loop N (by omega) g f hg hm ns hl ns.length 0 N (by omega) (by have := Fu_eq; have := hl.1; omega)
      rw [if_pos (by omega), show ((0 : Int) = ((0 : Nat) : Int)) from rfl, this, ob, List.drop_zero]
      cases cellsFrom g f 0 ns <;> simp [h]
    · rw [if_neg (by omega)]; simp [h]
end Go.Proofs.Ytdahghkmejnlgaa
end
section
set_option linter.unusedVariables false
set_option linter.unusedSimpArgs false
namespace Go.Proofs.Ytdahghkmejnlgaa
open Go Go.RowKit
abbrev Hd := Int × Int
def ixH : List Hd → Hd → Nat
  | [], _ => 0
  | x :: l, h => if x = h then 0 else ixH l h + 1
def plI (l : List Hd) (h : Hd) : Int := if h ∈ l then (ixH l h : Int) else -1
theorem ixH_at : ∀ {l : List Hd}, l.Nodup → ∀ {i : Nat} {h : Hd}, l[i]? = some h → ixH l h = i
  | [], _, i, h, hi => by simp at hi
  | x :: l, hn, i, h, hi => by
    rw [List.nodup_cons] at hn
    unfold ixH
    cases i with
    | zero => simp at hi; rw [if_pos hi]
    | succ i =>
      simp at hi
      have hm := List.mem_of_getElem? hi
      have : x ≠ h := fun e => hn.1 (e ▸ hm)
      rw [if_neg this, ixH_at hn.2 hi]
theorem ixH_zero {l : List Hd} {h h0 : Hd} (hm : h ∈ l) (h1 : l[0]? = some h0) : ixH l h = 0 ↔ h = h0 := by
  cases l with
  | nil => simp at h1
  | cons x l =>
    simp at h1; subst h1
    unfold ixH
    by_cases e : x = h
    · rw [if_pos e]; simp [e]
    · rw [if_neg e]
      constructor
      · intro h; omega
      · intro h; exact absurd h.symm e
theorem hd_eq (a b : Hd) : ((decide (a.1 = b.1)) && (decide (a.2 = b.2))) = decide (a = b) := by
  obtain ⟨a1, a2⟩ := a
  obtain ⟨b1, b2⟩ := b
  simp only [Prod.mk.injEq, Bool.decide_and]
def mapF : Nat → List Hd → List (Hd × Int)
  | _, [] => []
  | k, h :: l => (h, (k : Int)) :: mapF (k + 1) l
abbrev kH : Sc := .pr (.i .i64) (.i .i64)
theorem eqV_hd (a b : Hd) : eqV kH a b = decide (a = b) := by
  by_cases h : a = b
  · rw [(eqV_iff kH a b rfl).2 h]; simp [h]
  · have : eqV kH a b = false := by
      cases hb : eqV kH a b with
      | false => rfl
      | true => exact absurd ((eqV_iff kH a b rfl).1 hb) h
    rw [this]; simp [h]
theorem mapF_get : ∀ (k : Nat) (l : List Hd) (h : Hd), mget kH (mapF k l) h = if h ∈ l then some ((k + ixH l h : Nat) : Int) else none
  | k, [], h => by simp [mapF, mget]
  | k, x :: l, h => by
    simp only [mapF, mget, eqV_hd, cd]
    by_cases e : x = h
    · rw [if_pos e, if_pos (by simp [e]), ixH, if_pos e]; simp
    · rw [if_neg e, mapF_get (k + 1) l h]
      have : h ∈ x :: l ↔ h ∈ l := by
        rw [List.mem_cons]; exact ⟨fun h1 => h1.resolve_left fun q => e q.symm, .inr⟩
      by_cases hm : h ∈ l
      · rw [if_pos hm, if_pos (this.2 hm), ixH, if_neg e, show k + 1 + ixH l h = k + (ixH l h + 1) by omega]
      · rw [if_neg hm, if_neg fun q => hm (this.1 q)]
theorem mapF_put : ∀ (k : Nat) (l : List Hd) (h : Hd), h ∉ l → mput kH (mapF k l) h ((k + l.length : Nat) : Int) = mapF k (l ++ [h])
  | k, [], h, _ => by simp [mapF, mput]
  | k, x :: l, h, hn => by
    have e : ¬ x = h := fun e => hn (by simp [e])
    simp only [mapF, mput, eqV_hd, cd, List.cons_append]
    rw [if_neg e]
    have := mapF_put (k + 1) l h (fun hm => hn (by simp [hm]))
    rw [show k + 1 + l.length = k + (x :: l).length by simp; omega] at this
    rw [this]
def nd (ns : List Nd) (h : Hd) : Nd := ns.getD h.1.toNat (0, (0, []))
def nx0 (ns : List Nd) (h : Hd) : Hd := (nd ns h).2.2.getD 0 (0, 0)
def trip (ns : List Nd) : Nat → List Hd → Hd → List Hd × Hd
  | 0, met, h => (met, h)
  | k + 1, met, h => if h ∈ met then (met, h) else trip ns k (met ++ [h]) (nx0 ns h)
def GoodL (g f : List Int) (l : List Hd) : Prop := ∀ h ∈ l, goodB g f h.1 h.2 = true
theorem rightS_iff {g f : List Int} {ns : List Nd} : rightS g f ns = true ↔ rightB g f = true ∧ ns.length = g.length ∧ ∀ i x, ns[i]? = some x → cellOk g f i x = true := by
  simp only [rightS, Bool.and_eq_true, decide_eq_true_eq, cellsFrom_iff, Nat.zero_add]
/-- what stands at a good handle -/
theorem good_node {g f : List Int} {ns : List Nd} (hr : rightS g f ns = true) {h : Hd} (hg : goodB g f h.1 h.2 = true) :
    ns[h.1.toNat]? = some (nd ns h) ∧ ((h.1.toNat : Nat) : Int) = h.1 ∧ 0 ≤ (nd ns h).1 ∧ 1 ≤ (nd ns h).2.1 ∧ (nd ns h).2.1 ≤ 8 ∧ ((nd ns h).2.2.length : Int) = (nd ns h).2.1 ∧ GoodL g f (nd ns h).2.2 ∧ (nd ns h).2.2[0]? = some (nx0 ns h) ∧ goodB g f (nx0 ns h).1 (nx0 ns h).2 = true := by
  obtain ⟨h1, h2, h3⟩ := rightS_iff.1 hr
  obtain ⟨_, c0, c1, _, c3⟩ := goodB_iff.1 hg
  have hlt : h.1.toNat < ns.length := by omega
  have hx : ns[h.1.toNat]? = some (nd ns h) := by
    unfold nd; rw [List.getD_eq_getElem?_getD, List.getElem?_eq_getElem hlt]; rfl
  have hc := h3 _ _ hx
  have hi : ((h.1.toNat : Nat) : Int) = h.1 := by omega
  unfold cellOk at hc
  rw [if_neg (by rw [hi]; exact c3)] at hc
  unfold fullN at hc
  simp only [Bool.and_eq_true, decide_eq_true_eq, List.all_eq_true] at hc
  obtain ⟨⟨a1, a2, a3, a4⟩, a5⟩ := hc
  have h0 : 0 < (nd ns h).2.2.length := by omega
  have hn : (nd ns h).2.2[0]? = some (nx0 ns h) := by
    unfold nx0; rw [List.getD_eq_getElem?_getD, List.getElem?_eq_getElem h0]; rfl
  exact ⟨hx, hi, a1, a2, a3, a4, a5, hn, a5 _ (List.mem_of_getElem? hn)⟩
theorem good_inj {g f : List Int} {a b : Hd} (ha : goodB g f a.1 a.2 = true) (hb : goodB g f b.1 b.2 = true) (h : a.1 = b.1) : a = b := by
  obtain ⟨_, _, _, a4, _⟩ := goodB_iff.1 ha
  obtain ⟨_, _, _, b4, _⟩ := goodB_iff.1 hb
  refine Prod.ext h ?_
  rw [← a4, ← b4, h]
theorem good_len {g f : List Int} {l : List Hd} (hg : GoodL g f l) (hn : l.Nodup) : l.length ≤ g.length := by
  have h1 : (l.map (·.1)).Nodup := by
    rw [List.Nodup, List.pairwise_map]
    refine List.Pairwise.imp_of_mem ?_ hn
    intro a b ha hb hne e
    exact hne (good_inj (hg a ha) (hg b hb) e)
  have := nodup_sub (r := upI g.length) h1 fun c hc => by
    obtain ⟨h, hh, rfl⟩ := List.mem_map.1 hc
    obtain ⟨_, c0, c1, _⟩ := goodB_iff.1 (hg h hh)
    exact mem_upI.2 ⟨c0, c1⟩
  rw [upI_len, List.length_map] at this
  exact this
theorem nodup_snoc {α : Type} {l : List α} {x : α} (h : l.Nodup) (hx : x ∉ l) : (l ++ [x]).Nodup := by
  rw [List.nodup_append]
  refine ⟨h, by simp, fun a ha b hb e => ?_⟩
  simp at hb; subst hb; subst e; exact hx ha
theorem goodL_snoc {g f : List Int} {l : List Hd} {h : Hd} (hl : GoodL g f l) (hh : goodB g f h.1 h.2 = true) : GoodL g f (l ++ [h]) := fun x hx => by
  rcases List.mem_append.1 hx with hx | hx
  · exact hl x hx
  · simp at hx; subst hx; exact hh
structure TripOk (g f : List Int) (met : List Hd) (r : List Hd × Hd) : Prop where
  mem : r.2 ∈ r.1
  good : GoodL g f r.1
  nd : r.1.Nodup
  pre : ∃ s, r.1 = met ++ s
theorem trip_ok {g f : List Int} {ns : List Nd} (hr : rightS g f ns = true) : ∀ (k : Nat) (met : List Hd) (h : Hd), GoodL g f met → met.Nodup → goodB g f h.1 h.2 = true → g.length + 1 ≤ k + met.length → TripOk g f met (trip ns k met h)
  | 0, met, h, h1, h2, h3, h4 => by have := good_len h1 h2; omega
  | k + 1, met, h, h1, h2, h3, h4 => by
    unfold trip
    by_cases hm : h ∈ met
    · rw [if_pos hm]; exact ⟨hm, h1, h2, [], by simp⟩
    · rw [if_neg hm]
      obtain ⟨a, b, c, s, d⟩ := trip_ok hr k (met ++ [h]) (nx0 ns h) (goodL_snoc h1 h3) (nodup_snoc h2 hm) (good_node hr h3).2.2.2.2.2.2.2.2 (by simp; omega)
      exact ⟨a, b, c, h :: s, by rw [d]; simp⟩
theorem round_loop {g f : List Int} {ns : List Nd} (N : Nat) (hr : rightS g f ns = true) : ∀ (k m : Nat) (met : List Hd) (h : Hd), GoodL g f met → met.Nodup → goodB g f h.1 h.2 = true → g.length + 1 ≤ k + met.length → k < m →
    l__store_trip_round_phhhnm_1 N m (g, f, ns, h.1, h.2, mapF 0 met, met) = some ((ixH (trip ns k met h).1 (trip ns k met h).2 : Int), g, f, ns, mapF 0 (trip ns k met h).1, (trip ns k met h).1)
  | k, 0, met, h, h1, h2, h3, h4, h5 => by omega
  | 0, m + 1, met, h, h1, h2, h3, h4, h5 => by have := good_len h1 h2; omega
  | k + 1, m + 1, met, h, h1, h2, h3, h4, h5 => by
    have hl := good_len h1 h2
    have hgl := (right_len (rightS_iff.1 hr).1).1
    rw [l__store_trip_round_phhhnm_1_s, show ((h.1, h.2) : Hd) = h from rfl, mapF_get, cb, Nat.zero_add]
    unfold trip
    by_cases hm : h ∈ met
    · rw [if_pos hm, if_pos hm]; rfl
    · obtain ⟨hx, hi, _, _, _, _, _, hn, hgn⟩ := good_node hr h3
      rw [if_neg hm, if_neg hm, if_neg (by simp), app_of (by omega) (by simp; omega), ob, nth_at hx hi.symm, ob, nth_at (j := (0 : Int)) hn rfl, ob]
      have hp := mapF_put 0 met h hm
      rw [Nat.zero_add] at hp
      rw [hp]
      exact round_loop N hr k m (met ++ [h]) (nx0 ns h) (goodL_snoc h1 h3) (nodup_snoc h2 hm) hgn (by simp; omega) (by omega)
theorem round_eq {g f : List Int} {ns : List Nd} (N : Nat) (hN : Fu + 1 ≤ N) (hr : rightS g f ns = true) {h : Hd} (hh : goodB g f h.1 h.2 = true) :
    m__store_trip_round_phhhnm N (h.1, h.2, g, f, ns, []) = some ((ixH (trip ns (g.length + 1) [] h).1 (trip ns (g.length + 1) [] h).2 : Int), g, f, ns, mapF 0 (trip ns (g.length + 1) [] h).1, (trip ns (g.length + 1) [] h).1) := by
  obtain ⟨N, rfl⟩ : ∃ n, N = n + 1 := ⟨N - 1, by omega⟩
  have hgl := (right_len (rightS_iff.1 hr).1).1
  have := round_loop N hr (g.length + 1) N [] h (by intro x hx; cases hx) List.nodup_nil hh (by simp) (by have := Fu_eq; omega)
  rw [show mapF 0 [] = [] from rfl] at this
  rw [m__store_trip_round_phhhnm_eq, this, ob]
end Go.Proofs.Ytdahghkmejnlgaa
end
section
set_option linter.unusedVariables false
set_option linter.unusedSimpArgs false
namespace Go.Proofs.Ytdahghkmejnlgaa
open Go Go.RowKit
def tokS (ns : List Nd) (l : List Hd) : List Int := l.map fun h => (nd ns h).1
def hgtS (ns : List Nd) (l : List Hd) : List Int := l.map fun h => (nd ns h).2.1
def nxtS (ns : List Nd) (met l : List Hd) : List (List Int) := l.map fun h => (nd ns h).2.2.map (plI met)
def allIn (ns : List Nd) (met l : List Hd) : Bool := l.all fun h => (nd ns h).2.2.all fun q => decide (q ∈ met)
theorem tow2 (N : Nat) (v16 v17 : Int) (g f : List Int) (ns : List Nd) (a b : Int) (x3 nx met : List Hd) (hn : nx.length ≤ 8) (T H : List Int) (X : List (List Int)) : ∀ (k i m : Nat) (acc : List Int), i + k = nx.length → k < m → acc.length ≤ i →
    l__store_trip_tower_phhhom_2 N m (v16, v17, nx, ((nx.length : Nat) : Int), (i : Int), g, f, ns, a, b, x3, acc, met, mapF 0 met, T, H, X) =
      some (if (nx.drop i).all (fun q => decide (q ∈ met)) = true then .inl (v16, v17, g, f, ns, a, b, x3, acc ++ (nx.drop i).map (plI met), met, mapF 0 met, T, H, X) else .inr (false, g, f, ns, met, mapF 0 met))
  | k, i, 0, acc, h1, h2, h3 => by omega
  | 0, i, m + 1, acc, h1, h2, h3 => by
    rw [l__store_trip_tower_phhhom_2_s, cd, if_neg (by omega), List.drop_eq_nil_of_le (by omega)]; simp
  | k + 1, i, m + 1, acc, h1, h2, h3 => by
    obtain ⟨x, hx⟩ := get_at (xs := nx) (i := i) (by omega)
    rw [l__store_trip_tower_phhhom_2_s, cd, if_pos (by omega), nth_of hx, ob, show ((x.1, x.2) : Hd) = x from rfl, mapF_get, cb, drop_at hx, List.all_cons]
    by_cases hm : x ∈ met
    · rw [if_pos hm, if_neg (by simp), app_of (by omega) (by simp; omega), ob, w64n (by omega), tow2 N v16 v17 g f ns a b x3 nx met hn T H X k (i + 1) m _ (by omega) (by omega) (by simp; omega)]
      rw [show decide (x ∈ met) = true by simp [hm], Bool.true_and]
      have e : plI met x = (Option.getD (some ((0 + ixH met x : Nat) : Int)) 0) := by simp [plI, hm]
      rw [List.map_cons, e]
      simp only [List.append_assoc, List.singleton_append]
    · rw [if_neg hm, if_pos (by simp)]
      rw [show decide (x ∈ met) = false by simp [hm], Bool.false_and]; rfl
theorem tow1 (N : Nat) (hN : Fu ≤ N) {g f : List Int} {ns : List Nd} (hr : rightS g f ns = true) (met : List Hd) (hg : GoodL g f met) (hl : met.length ≤ 1000) : ∀ (k i m : Nat) (T H : List Int) (X : List (List Int)), i + k = met.length → k < m → T.length ≤ i → H.length ≤ i → X.length ≤ i →
    l__store_trip_tower_phhhom_1 N m (((met.length : Nat) : Int), (i : Int), g, f, ns, met, mapF 0 met, T, H, X) =
      some (if allIn ns met (met.drop i) = true then .inl (g, f, ns, met, mapF 0 met, T ++ tokS ns (met.drop i), H ++ hgtS ns (met.drop i), X ++ nxtS ns met (met.drop i)) else .inr (false, g, f, ns, met, mapF 0 met))
  | k, i, 0, T, H, X, h1, h2, h3, h4, h5 => by omega
  | 0, i, m + 1, T, H, X, h1, h2, h3, h4, h5 => by
    rw [l__store_trip_tower_phhhom_1_s, cd, if_neg (by omega), List.drop_eq_nil_of_le (by omega)]; simp [allIn, tokS, hgtS, nxtS]
  | k + 1, i, m + 1, T, H, X, h1, h2, h3, h4, h5 => by
    obtain ⟨x, hx⟩ := get_at (xs := met) (i := i) (by omega)
    obtain ⟨hn, hi, _, _, n3, n4, _⟩ := good_node hr (hg x (List.mem_of_getElem? hx))
    have hin := tow2 N ((met.length : Nat) : Int) (i : Int) g f ns (nd ns x).1 (nd ns x).2.1 (nd ns x).2.2 (nd ns x).2.2 met (by omega) T H X (nd ns x).2.2.length 0 N [] (by omega) (by have := Fu_eq; omega) (by simp)
    rw [List.drop_zero, List.nil_append] at hin
    rw [l__store_trip_tower_phhhom_1_s, cd, if_pos (by omega), nth_of hx, ob, ob, nth_at hn hi.symm, ob, show ((0 : Int) = ((0 : Nat) : Int)) from rfl, hin, ob, drop_at hx]
    simp only [allIn, tokS, hgtS, nxtS, List.all_cons, List.map_cons]
    cases h : (nd ns x).2.2.all fun q => decide (q ∈ met) with
    | false => rw [Bool.false_and]; rfl
    | true =>
      rw [Bool.true_and]
      simp only [if_true]
      rw [app_of (by omega) (by simp; omega), ob, app_of (by omega) (by simp; omega), ob, app_of (by omega) (by simp; omega), ob, w64n (by omega), tow1 N hN hr met hg hl k (i + 1) m _ _ _ (by omega) (by omega) (by simp; omega) (by simp; omega) (by simp; omega)]
      simp only [allIn, tokS, hgtS, nxtS, List.append_assoc, List.singleton_append]
def towS (ns : List Nd) (met : List Hd) : Prop := allIn ns met met = true ∧ TowerR (tokS ns met) (hgtS ns met) (nxtS ns met met)
noncomputable instance (ns : List Nd) (met : List Hd) : Decidable (towS ns met) := Classical.propDecidable _
theorem ttower_eq (N : Nat) (hN : Fu + 7 ≤ N) {g f : List Int} {ns : List Nd} (hr : rightS g f ns = true) (met : List Hd) (hg : GoodL g f met) (hl : met.length ≤ 1000) :
    m__store_trip_tower_phhhom N (g, f, ns, met, mapF 0 met) = some (if towS ns met then (true, tokS ns met, hgtS ns met, nxtS ns met met, met, mapF 0 met, g, f, ns) else (false, [], [], [], met, mapF 0 met, g, f, ns)) := by
  obtain ⟨N, rfl⟩ : ∃ n, N = n + 1 := ⟨N - 1, by omega⟩
  have h1 := tow1 N (by omega) hr met hg hl met.length 0 N [] [] [] (by omega) (by have := Fu_eq; omega) (by simp) (by simp) (by simp)
  rw [List.drop_zero, List.nil_append, List.nil_append, List.nil_append] at h1
  rw [m__store_trip_tower_phhhom_eq, show ((0 : Int) = ((0 : Nat) : Int)) from rfl, h1, ob]
  by_cases ha : allIn ns met met = true
  · rw [if_pos ha]
    simp only []
    rw [tright_eq N (by omega) _ _ _ (by simp [tokS]; omega) (by simp [hgtS]; omega), ob]
    by_cases ht : TowerR (tokS ns met) (hgtS ns met) (nxtS ns met met)
    · rw [if_pos (show towS ns met from ⟨ha, ht⟩)]; simp [ht]
    · rw [if_neg (fun h : towS ns met => ht h.2)]; simp [ht]
  · rw [if_neg ha, if_neg (fun h : towS ns met => ha h.1)]
def tripOf (g : List Int) (ns : List Nd) (h : Hd) : List Hd × Hd := trip ns (g.length + 1) [] h
noncomputable def readS (g f : List Int) (ns : List Nd) (h : Hd) : Int × List Int × List Int × List (List Int) × List Hd :=
  if rightS g f ns = false then (1, [], [], [], []) else if goodB g f h.1 h.2 = false then (3, [], [], [], []) else
  if (tripOf g ns h).2 = h ∧ towS ns (tripOf g ns h).1 then (0, tokS ns (tripOf g ns h).1, hgtS ns (tripOf g ns h).1, nxtS ns (tripOf g ns h).1 (tripOf g ns h).1, (tripOf g ns h).1) else (8, [], [], [], [])
theorem tripOf_ok {g f : List Int} {ns : List Nd} (hr : rightS g f ns = true) {h : Hd} (hg : goodB g f h.1 h.2 = true) : TripOk g f [h] (tripOf g ns h) ∧ (tripOf g ns h).1[0]? = some h ∧ (tripOf g ns h).1.length ≤ 1000 := by
  have hgl := (right_len (rightS_iff.1 hr).1).1
  have h1 : tripOf g ns h = trip ns g.length [h] (nx0 ns h) := by
    unfold tripOf
    rw [trip, if_neg (by simp), List.nil_append]
  have h2 := trip_ok hr g.length [h] (nx0 ns h) (fun x hx => by simp at hx; subst hx; exact hg) (by simp) (good_node hr hg).2.2.2.2.2.2.2.2 (by simp)
  rw [← h1] at h2
  refine ⟨h2, ?_, ?_⟩
  · obtain ⟨s, hs⟩ := h2.pre
    rw [hs]; rfl
  · have := good_len h2.good h2.nd; omega
theorem read_eq (N : Nat) (hN : Fu + 9 ≤ N) (g f : List Int) (hg : g.length ≤ 9223372036854775807) (hm : f.length ≤ 9223372036854775807) (ns : List Nd) (hl : LN ns) (h h2 : Int) : m_store_Read N (g, f, ns, h, h2) = some (readS g f ns (h, h2)) := by
  obtain ⟨N, rfl⟩ : ∃ n, N = n + 1 := ⟨N - 1, by omega⟩
  rw [m_store_Read_eq, sright_eq N (by omega) g f hg hm ns hl, ob]
  unfold readS
  cases hr : rightS g f ns with
  | false => rfl
  | true =>
    rw [good_eq N (by omega) g f h h2 hg hm, ob]
    cases hgd : goodB g f h h2 with
    | false => rfl
    | true =>
      rw [if_neg (by decide), if_neg (by decide)]
      obtain ⟨ht, h0, hlen⟩ := tripOf_ok hr (h := (h, h2)) hgd
      have h1 := round_eq N (by omega) hr (h := (h, h2)) hgd
      rw [show trip ns (g.length + 1) [] (h, h2) = tripOf g ns (h, h2) from rfl] at h1
      rw [h1, ob]
      simp only [Bool.not_true, cond_false]
      rw [ttower_eq N (by omega) hr _ ht.good hlen, ob, cdn]
      have hz := ixH_zero ht.mem h0
      by_cases hw : (tripOf g ns (h, h2)).2 = (h, h2)
      · rw [if_pos (by have := hz.2 hw; omega)]
        by_cases hs : towS ns (tripOf g ns (h, h2)).1
        · rw [if_pos hs, if_pos ⟨hw, hs⟩]; rfl
        · rw [if_neg hs, if_neg fun q => hs q.2]; rfl
      · rw [if_neg (fun q => hw (hz.1 (by omega))), if_neg fun q => hw q.1]
theorem plI_nonneg {l : List Hd} {h : Hd} (hp : 0 ≤ plI l h) : h ∈ l := by
  unfold plI at hp
  by_cases hm : h ∈ l
  · exact hm
  · rw [if_neg hm] at hp; omega
theorem next_nonneg {hs : List Int} {x : List Int} (hx : x ∈ nextOf hs) : ∀ y ∈ x, 0 ≤ y := by
  intro y hy
  unfold nextOf at hx
  obtain ⟨i, _, rfl⟩ := List.mem_map.1 hx
  unfold linksOf at hy
  obtain ⟨j, _, rfl⟩ := List.mem_map.1 hy
  unfold linkOf; omega
theorem towS_iff {ns : List Nd} {met : List Hd} : towS ns met ↔ TowerR (tokS ns met) (hgtS ns met) (nxtS ns met met) := by
  refine ⟨fun h => h.2, fun h => ⟨?_, h⟩⟩
  unfold allIn
  simp only [List.all_eq_true, decide_eq_true_eq]
  intro x hx q hq
  have h2 : (nd ns x).2.2.map (plI met) ∈ nextOf (hgtS ns met) := by
    rw [← h.2]; exact List.mem_map.2 ⟨x, hx, rfl⟩
  exact plI_nonneg (next_nonneg h2 _ (List.mem_map.2 ⟨q, hq, rfl⟩))
end Go.Proofs.Ytdahghkmejnlgaa
end
section
set_option linter.unusedVariables false
set_option linter.unusedSimpArgs false
namespace Go.Proofs.Ytdahghkmejnlgaa
open Go Go.RowKit
def leadsFrom (l : List Hd) : Nat → List Nd → Bool
  | _, [] => false
  | c, x :: xs => (!(l.any fun h => decide (h.1 = (c : Int))) && x.2.2.any fun q => decide (q ∈ l)) || leadsFrom l (c + 1) xs
theorem lead1_loop (N : Nat) (hN : Fu ≤ N) (l : List Hd) (hl : l.length ≤ 9223372036854775807) (c : Int) : ∀ (k i m : Nat), i + k = l.length → k < m →
    ∃ j : Nat, l_slices_IndexFunc_Lapi_Handle_api_Handle_store_leadsF1_f66ph_1 N m (l, ((l.length : Nat) : Int), (i : Int), c) = some (if (l.drop i).any (fun h => decide (h.1 = c)) = true then .inr ((j : Int), c) else .inl c)
  | k, i, 0, h1, h2 => by omega
  | 0, i, m + 1, h1, h2 => by
    refine ⟨0, ?_⟩
    rw [l_slices_IndexFunc_Lapi_Handle_api_Handle_store_leadsF1_f66ph_1_s, cd, if_neg (by omega), List.drop_eq_nil_of_le (by omega), if_neg (by simp)]
  | k + 1, i, m + 1, h1, h2 => by
    obtain ⟨x, hx⟩ := get_at (xs := l) (i := i) (by omega)
    obtain ⟨j, ih⟩ := lead1_loop N hN l hl c k (i + 1) m (by omega) (by omega)
    have h1' : m_store_leadsF1_ph N (x.1, x.2, c) = some (decide (x.1 = c), c) := by
      obtain ⟨N, rfl⟩ : ∃ n, N = n + 1 := ⟨N - 1, by have := Fu_eq; omega⟩
      rw [m_store_leadsF1_ph_eq]
    rw [l_slices_IndexFunc_Lapi_Handle_api_Handle_store_leadsF1_f66ph_1_s, cd, if_pos (by omega), nth_of hx, ob, h1', ob, cd, w64n (by omega), ih, drop_at hx, List.any_cons]
    by_cases h : x.1 = c
    · exact ⟨i, by rw [if_pos h, show decide (x.1 = c) = true by simp [h], Bool.true_or]; rfl⟩
    · exact ⟨j, by rw [if_neg h, show decide (x.1 = c) = false by simp [h], Bool.false_or]⟩
theorem lead1_eq (N : Nat) (hN : Fu + 2 ≤ N) (l : List Hd) (hl : l.length ≤ 9223372036854775807) (c : Int) : m_slices_ContainsFunc_Lapi_Handle_api_Handle_store_leadsF1_f66ph N (l, c) = some (l.any (fun h => decide (h.1 = c)), c) := by
  obtain ⟨N, rfl⟩ : ∃ n, N = n + 2 := ⟨N - 2, by omega⟩
  rw [m_slices_ContainsFunc_Lapi_Handle_api_Handle_store_leadsF1_f66ph_eq, m_slices_IndexFunc_Lapi_Handle_api_Handle_store_leadsF1_f66ph_eq]
  obtain ⟨j, hj⟩ := lead1_loop N (by omega) l hl c l.length 0 N (by omega) (by have := Fu_eq; omega)
  rw [show ((0 : Int) = ((0 : Nat) : Int)) from rfl, hj, List.drop_zero]
  cases h : l.any fun h => decide (h.1 = c) with
  | true => simp [ob]
  | false => simp [ob]
theorem hindex_loop (N : Nat) (l : List Hd) (hl : l.length ≤ 9223372036854775807) (v v2 : Int) : ∀ (k i m : Nat), i + k = l.length → k < m →
    ∃ j : Nat, l_slices_Index_Lapi_Handle_api_Handle_1 N m (l, ((l.length : Nat) : Int), (i : Int), v, v2) = some (if (v, v2) ∈ l.drop i then .inr (j : Int) else .inl ())
  | k, i, 0, h1, h2 => by omega
  | 0, i, m + 1, h1, h2 => by
    refine ⟨0, ?_⟩
    rw [l_slices_Index_Lapi_Handle_api_Handle_1_s, cd, if_neg (by omega), List.drop_eq_nil_of_le (by omega), if_neg (by simp)]
  | k + 1, i, m + 1, h1, h2 => by
    obtain ⟨x, hx⟩ := get_at (xs := l) (i := i) (by omega)
    obtain ⟨j, ih⟩ := hindex_loop N l hl v v2 k (i + 1) m (by omega) (by omega)
    rw [l_slices_Index_Lapi_Handle_api_Handle_1_s, cd, if_pos (by omega), nth_of hx, ob, hd_eq (v, v2) x, cd, w64n (by omega), ih, drop_at hx]
    by_cases e : (v, v2) = x
    · exact ⟨i, by rw [if_pos e, if_pos (by simp [e])]⟩
    · have : (v, v2) ∈ x :: l.drop (i + 1) ↔ (v, v2) ∈ l.drop (i + 1) := by
        rw [List.mem_cons]; exact ⟨fun h1 => h1.resolve_left e, .inr⟩
      refine ⟨j, ?_⟩
      rw [if_neg e]
      by_cases hm : (v, v2) ∈ l.drop (i + 1)
      · rw [if_pos hm, if_pos (this.2 hm)]
      · rw [if_neg hm, if_neg fun q => hm (this.1 q)]
theorem hcontains_eq (N : Nat) (hN : Fu + 2 ≤ N) (l : List Hd) (hl : l.length ≤ 9223372036854775807) (v v2 : Int) : m_slices_Contains_Lapi_Handle_api_Handle N (l, v, v2) = some (decide ((v, v2) ∈ l)) := by
  obtain ⟨N, rfl⟩ : ∃ n, N = n + 2 := ⟨N - 2, by omega⟩
  rw [m_slices_Contains_Lapi_Handle_api_Handle_eq, m_slices_Index_Lapi_Handle_api_Handle_eq]
  obtain ⟨j, hj⟩ := hindex_loop N l hl v v2 l.length 0 N (by omega) (by have := Fu_eq; omega)
  rw [show ((0 : Int) = ((0 : Nat) : Int)) from rfl, hj, List.drop_zero]
  by_cases h : (v, v2) ∈ l <;> simp [ob, h]
theorem lead2_loop (N : Nat) (hN : Fu + 3 ≤ N) (l : List Hd) (hl : l.length ≤ 9223372036854775807) (s : List Hd) (hs : s.length ≤ 9223372036854775807) : ∀ (k i m : Nat), i + k = s.length → k < m →
    ∃ j : Nat, l_slices_IndexFunc_Lapi_Handle_api_Handle_store_leadsF2_f67ph_1 N m (s, ((s.length : Nat) : Int), (i : Int), l) = some (if (s.drop i).any (fun q => decide (q ∈ l)) = true then .inr ((j : Int), l) else .inl l)
  | k, i, 0, h1, h2 => by omega
  | 0, i, m + 1, h1, h2 => by
    refine ⟨0, ?_⟩
    rw [l_slices_IndexFunc_Lapi_Handle_api_Handle_store_leadsF2_f67ph_1_s, cd, if_neg (by omega), List.drop_eq_nil_of_le (by omega), if_neg (by simp)]
  | k + 1, i, m + 1, h1, h2 => by
    obtain ⟨x, hx⟩ := get_at (xs := s) (i := i) (by omega)
    obtain ⟨j, ih⟩ := lead2_loop N hN l hl s hs k (i + 1) m (by omega) (by omega)
    have h1' : m_store_leadsF2_ph N (x.1, x.2, l) = some (decide (x ∈ l), l) := by
      obtain ⟨N, rfl⟩ : ∃ n, N = n + 1 := ⟨N - 1, by have := Fu_eq; omega⟩
      rw [m_store_leadsF2_ph_eq, hcontains_eq N (by omega) l hl, ob]
    rw [l_slices_IndexFunc_Lapi_Handle_api_Handle_store_leadsF2_f67ph_1_s, cd, if_pos (by omega), nth_of hx, ob, h1', ob, cd, w64n (by omega), ih, drop_at hx, List.any_cons]
    by_cases h : x ∈ l
    · exact ⟨i, by rw [if_pos h, show decide (x ∈ l) = true by simp [h], Bool.true_or]; rfl⟩
    · exact ⟨j, by rw [if_neg h, show decide (x ∈ l) = false by simp [h], Bool.false_or]⟩
theorem lead2_eq (N : Nat) (hN : Fu + 5 ≤ N) (l : List Hd) (hl : l.length ≤ 9223372036854775807) (s : List Hd) (hs : s.length ≤ 9223372036854775807) : m_slices_ContainsFunc_Lapi_Handle_api_Handle_store_leadsF2_f67ph N (s, l) = some (s.any (fun q => decide (q ∈ l)), l) := by
  obtain ⟨N, rfl⟩ : ∃ n, N = n + 2 := ⟨N - 2, by omega⟩
  rw [m_slices_ContainsFunc_Lapi_Handle_api_Handle_store_leadsF2_f67ph_eq, m_slices_IndexFunc_Lapi_Handle_api_Handle_store_leadsF2_f67ph_eq]
  obtain ⟨j, hj⟩ := lead2_loop N (by omega) l hl s hs s.length 0 N (by omega) (by have := Fu_eq; omega)
  rw [show ((0 : Int) = ((0 : Nat) : Int)) from rfl, hj, List.drop_zero]
  cases h : s.any fun q => decide (q ∈ l) with
  | true => simp [ob]
  | false => simp [ob]
theorem leads_loop (N : Nat) (hN : Fu + 5 ≤ N) (l : List Hd) (hl : l.length ≤ 9223372036854775807) (ns : List Nd) (hns : LN ns) : ∀ (k i m : Nat), i + k = ns.length → k < m →
    l_store_leads_1 N m (ns, ((ns.length : Nat) : Int), (i : Int), l) = some (if leadsFrom l i (ns.drop i) = true then .inr true else .inl ())
  | k, i, 0, h1, h2 => by omega
  | 0, i, m + 1, h1, h2 => by
    rw [l_store_leads_1_s, cd, if_neg (by omega), List.drop_eq_nil_of_le (by omega)]; simp [leadsFrom]
  | k + 1, i, m + 1, h1, h2 => by
    obtain ⟨x, hx⟩ := get_at (xs := ns) (i := i) (by omega)
    have ih := leads_loop N hN l hl ns hns k (i + 1) m (by omega) (by omega)
    have hil := hns.1
    rw [l_store_leads_1_s, cd, if_pos (by omega), nth_of hx, ob, lead1_eq N (by omega) l hl, ob, cb, lead2_eq N hN l hl _ (hns.2 x (List.mem_of_getElem? hx)), ob, w64n (by omega), ih, drop_at hx]
    simp only [leadsFrom]
    rcases Bool.eq_false_or_eq_true (l.any fun h => decide (h.1 = (i : Int))) with hA | hA
    · simp only [hA]; simp
    · rcases Bool.eq_false_or_eq_true (x.2.2.any fun q => decide (q ∈ l)) with hB | hB
      · simp only [hA, hB]; simp
      · simp only [hA, hB]; simp
theorem leads_eq (N : Nat) (hN : Fu + 6 ≤ N) (g f : List Int) (l : List Hd) (hl : l.length ≤ 9223372036854775807) (ns : List Nd) (hns : LN ns) : m_store_leads N (g, f, ns, l) = some (leadsFrom l 0 ns) := by
  obtain ⟨N, rfl⟩ : ∃ n, N = n + 1 := ⟨N - 1, by omega⟩
  rw [m_store_leads_eq, show ((0 : Int) = ((0 : Nat) : Int)) from rfl, leads_loop N (by omega) l hl ns hns ns.length 0 N (by omega) (by have := Fu_eq; have := hns.1; omega), ob, List.drop_zero]
  cases leadsFrom l 0 ns <;> simp
def giveL : List Hd → List Int → List Int → List Nd → List Int × List Int × List Nd
  | [], g, f, ns => (g, f, ns)
  | h :: l, g, f, ns => giveL l (giveP g f h.1 h.2).2.1 (giveP g f h.1 h.2).2.2 (ns.set h.1.toNat (0, (0, [])))
theorem nclone_eq (N : Nat) (hN : Fu + 1 ≤ N) (ns : List Nd) (hm : ns.length ≤ 100000000000) : m_slices_Clone_Lapi_Node_api_Node N ns = some ns := by
  obtain ⟨N, rfl⟩ : ∃ n, N = n + 1 := ⟨N - 1, by omega⟩
  rw [m_slices_Clone_Lapi_Node_api_Node_eq, app_of (by omega) (by simpa using hm), ob]
  cases ns with
  | nil => simp [isNilB, dem_iff]
  | cons x ns => simp [isNilB]
theorem nget {ns : List Nd} {h : Hd} (h0 : 0 ≤ h.1) (h1 : h.1 < ns.length) : ∃ x, nthI ns h.1 = some x := by
  obtain ⟨x, _, hx⟩ := nth_ex h0 h1
  exact ⟨x, hx⟩
theorem give_loop (N : Nat) (hN : Fu + 4 ≤ N) : ∀ (its : List (Int × Hd)) (g f : List Int) (ns : List Nd), g.length ≤ 1000 → f.length + its.length ≤ 100000 → (∀ q ∈ its, 0 ≤ q.2.1 ∧ q.2.1 < ns.length) →
    l_store_Give_1 N its (g, f, ns) = some (giveL (its.map (·.2)) g f ns)
  | [], g, f, ns, hg, hf, h => by rw [l_store_Give_1_z]; rfl
  | (i, c, x) :: its, g, f, ns, hg, hf, h => by
    obtain ⟨c0, c1⟩ := h (i, c, x) (by simp)
    obtain ⟨y, hy⟩ := nget (ns := ns) (h := (c, x)) c0 c1
    obtain ⟨l1, l2⟩ := giveP_len g f c x
    simp only [List.length_cons] at hf
    rw [l_store_Give_1_s, give_eq N hN g f c x (by omega) (by omega), ob, hy, ob, ob, give_loop N hN its _ _ _ (by omega) (by omega) fun q hq => by simpa using h q (by simp [hq])]
    rfl
theorem bwI_snd {α : Type} (xs : List α) : (bwI xs).map (·.2) = xs.reverse := by
  unfold bwI
  rw [List.map_map, List.map_reverse]
  congr 1
  rw [show ((fun x : Int × α => x.2) ∘ fun p : Nat × α => ((p.1 : Int), p.2)) = Prod.snd from rfl, List.map_snd_zip]
  simp
noncomputable def sgiveS (g f : List Int) (ns : List Nd) (h : Hd) : Int × List Int × List Int × List Nd :=
  if (readS g f ns h).1 ≠ 0 then ((readS g f ns h).1, g, f, ns) else if leadsFrom (readS g f ns h).2.2.2.2 0 ns = true then (5, g, f, ns) else (0, giveL (readS g f ns h).2.2.2.2.reverse g f ns)
theorem readS_ok {g f : List Int} {ns : List Nd} {h : Hd} (h0 : (readS g f ns h).1 = 0) : rightS g f ns = true ∧ goodB g f h.1 h.2 = true ∧ (tripOf g ns h).2 = h ∧ towS ns (tripOf g ns h).1 ∧ (readS g f ns h).2.2.2.2 = (tripOf g ns h).1 := by
  unfold readS at h0 ⊢
  by_cases h1 : rightS g f ns = false
  · rw [if_pos h1] at h0; cases h0
  rw [if_neg h1] at h0 ⊢
  by_cases h2 : goodB g f h.1 h.2 = false
  · rw [if_pos h2] at h0; cases h0
  rw [if_neg h2] at h0 ⊢
  by_cases h3 : (tripOf g ns h).2 = h ∧ towS ns (tripOf g ns h).1
  · rw [if_pos h3]; exact ⟨by simpa using h1, by simpa using h2, h3.1, h3.2, rfl⟩
  · rw [if_neg h3] at h0; cases h0
theorem sgive_eq (N : Nat) (hN : Fu + 10 ≤ N) (g f : List Int) (hg : g.length ≤ 9223372036854775807) (hm : f.length ≤ 9223372036854775807) (ns : List Nd) (hl : LN ns) (h h2 : Int) : m_store_Give N (g, f, ns, h, h2) = some (sgiveS g f ns (h, h2)) := by
  obtain ⟨N, rfl⟩ : ∃ n, N = n + 1 := ⟨N - 1, by omega⟩
  rw [m_store_Give_eq, read_eq N (by omega) g f hg hm ns hl, ob, cdn]
  unfold sgiveS
  by_cases h0 : (readS g f ns (h, h2)).1 = 0
  · obtain ⟨hr, hgd, _, _, hmet⟩ := readS_ok h0
    obtain ⟨ht, _, hlen⟩ := tripOf_ok hr hgd
    obtain ⟨g1, f1, _⟩ := right_len (rightS_iff.1 hr).1
    have hnl := (rightS_iff.1 hr).2.1
    rw [if_pos h0, if_neg (by simpa using h0), hmet, leads_eq N (by omega) g f _ (by omega) ns hl, ob, cb]
    by_cases hle : leadsFrom (tripOf g ns (h, h2)).1 0 ns = true
    · rw [if_pos hle, if_pos hle]
    · have hb : m_slices_Backward_Lapi_Handle_api_Handle N (tripOf g ns (h, h2)).1 = some (tripOf g ns (h, h2)).1 := by
        obtain ⟨N, rfl⟩ : ∃ n, N = n + 1 := ⟨N - 1, by omega⟩
        exact m_slices_Backward_Lapi_Handle_api_Handle_eq N _
      rw [if_neg hle, if_neg hle, nclone_eq N (by omega) ns (by omega), ob, hb, ob, give_loop N (by omega) _ g f ns (by omega) (by rw [bwI_len]; omega) fun q hq => ?_, ob, bwI_snd]
      have hq2 : q.2 ∈ (tripOf g ns (h, h2)).1 := by
        have : q.2 ∈ (bwI (tripOf g ns (h, h2)).1).map (·.2) := List.mem_map.2 ⟨q, hq, rfl⟩
        rw [bwI_snd] at this; simpa using this
      obtain ⟨_, c0, c1, _⟩ := goodB_iff.1 (ht.good _ hq2)
      exact ⟨c0, by omega⟩
  · rw [if_neg h0, if_pos h0]
end Go.Proofs.Ytdahghkmejnlgaa
end
section
set_option linter.unusedVariables false
namespace Go.Proofs.Ytdahghkmejnlgaa
open Go Go.RowKit
noncomputable section
/-- hands a value on, reckoned first -/
structure Fc (α : Type) where
  f : {R : Type} → α → (α → R) → R
  ok : ∀ {R : Type} (x : α) (k : α → R), f x k = k x
def fN {R : Type} (n : Nat) (k : Nat → R) : R := Nat.rec (motive := fun _ => R) (k 0) (fun m _ => k (Nat.succ m)) n
theorem fN_ok {R : Type} (n : Nat) (k : Nat → R) : fN n k = k n := by cases n <;> rfl
def fcI : Fc Int := ⟨fun {R} x k => Int.rec (motive := fun _ => R) (fun n => fN n fun m => k (Int.ofNat m)) (fun n => fN n fun m => k (Int.negSucc m)) x, fun x k => by
  cases x with
  | ofNat n => exact fN_ok n _
  | negSucc n => exact fN_ok n _⟩
def fcU : Fc Unit := ⟨fun x k => k (), fun x k => rfl⟩
def fL {α : Type} (a : Fc α) {R : Type} (xs : List α) : (List α → R) → R := List.rec (motive := fun _ => (List α → R) → R) (fun k => k []) (fun x _ ih k => a.f x fun y => ih fun ys => k (y :: ys)) xs
theorem fL_ok {α : Type} (a : Fc α) {R : Type} : ∀ (xs : List α) (k : List α → R), fL a xs k = k xs
  | [], k => rfl
  | x :: xs, k => by
    show a.f x (fun y => fL a xs fun ys => k (y :: ys)) = _
    rw [a.ok, fL_ok a xs]
def fcL {α : Type} (a : Fc α) : Fc (List α) := ⟨fun xs k => fL a xs k, fun xs k => fL_ok a xs k⟩
def fcP {α β : Type} (a : Fc α) (b : Fc β) : Fc (α × β) := ⟨fun {R} p k => Prod.rec (motive := fun _ => R) (fun x y => a.f x fun x' => b.f y fun y' => k (x', y')) p, fun p k => by
  obtain ⟨x, y⟩ := p
  show a.f x (fun x' => b.f y fun y' => k (x', y')) = _
  rw [a.ok, b.ok]⟩
def demD {R : Type} [DecidableEq R] (f : Bool → Option R) : Option R := match f true, f false with
  | some a, some b => if a = b then some a else none
  | _, _ => none
theorem dem_D {R : Type} [DecidableEq R] (f : Bool → Option R) : dem f = demD f := by
  rw [dem_eq]
  unfold demG demD
  cases f true with
  | none => rfl
  | some a =>
    cases f false with
    | none => rfl
    | some b =>
      simp only
      by_cases h : a = b
      · rw [if_pos h, if_pos h]
      · rw [if_neg h, if_neg h]
end
end Go.Proofs.Ytdahghkmejnlgaa
end
section
set_option linter.unusedVariables false
set_option linter.unusedSimpArgs false
set_option maxRecDepth 100000
namespace Go.Proofs.Ytdahghkmejnlgaa
open Go Go.RowKit
noncomputable section
def tl_ref13_Place_1 (N : Nat) : Nat → (List Int) × Int × Int → Option ((Unit) ⊕ (Int))
  | 0, _ => none
  | m + 1, v => (fcP (fcL fcI) (fcP fcI fcI)).f v fun (l, token, i) => cond (decide (i < (((List.length l) : Nat) : Int)))
   (obind (nthI l i) fun z1 =>
    cond (decide (z1 = token))
     (some (.inr i))
     ((tl_ref13_Place_1 N m (l, (token, (IntKind.wrap .i64 (i + (1 : Int))))))))
   (some (.inl ()))
theorem q_l_ref13_Place_1 (N : Nat) : ∀ (m : Nat) (v : (List Int) × Int × Int), l_ref13_Place_1 N m v = tl_ref13_Place_1 N m v
  | 0, _ => by kernel_rfl
  | m + 1, (l, token, i) => by
    rw [l_ref13_Place_1_s, tl_ref13_Place_1, (fcP (fcL fcI) (fcP fcI fcI)).ok]
    all_goals first | rfl | (simp only [bitI_eq, dem_D, q_l_ref13_Place_1 N m]; done) | (simp only [bitI_eq, dem_D, q_l_ref13_Place_1 N m]; rfl)
def t_ref13_Place : Nat → (List Int) × Int → Option (Int)
  | 0, _ => none
  | N + 1, v => (fcP (fcL fcI) fcI).f v fun (l, token) => obind (tl_ref13_Place_1 N N (l, (token, (0 : Int)))) fun z1 =>
  (match z1 with
  | .inl zy2 => some (-(1 : Int))
  | .inr zy3 => some zy3)
theorem q_m_ref13_Place : ∀ (N : Nat) (v : (List Int) × Int), m_ref13_Place N v = t_ref13_Place N v
  | 0, _ => by kernel_rfl
  | N + 1, (l, token) => by
    rw [m_ref13_Place_eq, t_ref13_Place, (fcP (fcL fcI) fcI).ok]
    all_goals first | rfl | (simp only [q_l_ref13_Place_1, bitI_eq, dem_D]; done) | (simp only [q_l_ref13_Place_1, bitI_eq, dem_D]; rfl)
def tl_ref13_Right_1 (N : Nat) : Nat → (List Int) × Int → Option ((Unit) ⊕ (Bool))
  | 0, _ => none
  | m + 1, v => (fcP (fcL fcI) fcI).f v fun (l, i) => cond (decide (i < (((List.length l) : Nat) : Int)))
   (obind (nthI l i) fun z1 =>
    cond (decide (z1 < (0 : Int)))
     (some (.inr false))
     (obind (nthI l i) fun z2 =>
      cond (decide ((10000 : Int) < z2))
       (some (.inr false))
       (obind (subI l (0 : Int) i) fun z3 =>
        obind (nthI l i) fun z4 =>
        obind (t_ref13_Place N (z3, z4)) fun z5 =>
        cond (decide ((0 : Int) ≤ z5))
         (some (.inr false))
         ((tl_ref13_Right_1 N m (l, (IntKind.wrap .i64 (i + (1 : Int)))))))))
   (some (.inl ()))
theorem q_l_ref13_Right_1 (N : Nat) : ∀ (m : Nat) (v : (List Int) × Int), l_ref13_Right_1 N m v = tl_ref13_Right_1 N m v
  | 0, _ => by kernel_rfl
  | m + 1, (l, i) => by
    rw [l_ref13_Right_1_s, tl_ref13_Right_1, (fcP (fcL fcI) fcI).ok]
    all_goals first | rfl | (simp only [q_m_ref13_Place, bitI_eq, dem_D, q_l_ref13_Right_1 N m]; done) | (simp only [q_m_ref13_Place, bitI_eq, dem_D, q_l_ref13_Right_1 N m]; rfl)
def t_ref13_Right : Nat → (List Int) → Option (Bool)
  | 0, _ => none
  | N + 1, v => (fcL fcI).f v fun (l) => cond (decide ((1000 : Int) < (((List.length l) : Nat) : Int)))
   (some false)
   (obind (tl_ref13_Right_1 N N (l, (0 : Int))) fun z1 =>
    (match z1 with
    | .inl zy2 => some true
    | .inr zy3 => some zy3))
theorem q_m_ref13_Right : ∀ (N : Nat) (v : (List Int)), m_ref13_Right N v = t_ref13_Right N v
  | 0, _ => by kernel_rfl
  | N + 1, (l) => by
    rw [m_ref13_Right_eq, t_ref13_Right, (fcL fcI).ok]
    all_goals first | rfl | (simp only [q_l_ref13_Right_1, bitI_eq, dem_D]; done) | (simp only [q_l_ref13_Right_1, bitI_eq, dem_D]; rfl)
def tl_ref14_Build_4 (N : Nat) : Nat → (List Int) × Int × Int × Int × Int × (List Int) × (List Int) × (List Int) × (List (List Int)) → Option ((List Int) × Int × Int × Int × Int × (List Int) × (List Int) × (List Int) × (List (List Int)))
  | 0, _ => none
  | m + 1, v => (fcP (fcL fcI) (fcP fcI (fcP fcI (fcP fcI (fcP fcI (fcP (fcL fcI) (fcP (fcL fcI) (fcP (fcL fcI) (fcL (fcL fcI)))))))))).f v fun (heights, n, i, h, k, l, v902, v903, v905) => obind (remI (IntKind.wrap .i64 (i + k)) n) fun z1 =>
  obind (nthI heights z1) fun z2 =>
  cond (decide (z2 ≤ h))
   ((tl_ref14_Build_4 N m (heights, (n, (i, (h, ((IntKind.wrap .i64 (k + (1 : Int))), (l, (v902, (v903, v905))))))))))
   (some (heights, (n, (i, (h, (k, (l, (v902, (v903, v905)))))))))
theorem q_l_ref14_Build_4 (N : Nat) : ∀ (m : Nat) (v : (List Int) × Int × Int × Int × Int × (List Int) × (List Int) × (List Int) × (List (List Int))), l_ref14_Build_4 N m v = tl_ref14_Build_4 N m v
  | 0, _ => by kernel_rfl
  | m + 1, (heights, n, i, h, k, l, v902, v903, v905) => by
    rw [l_ref14_Build_4_s, tl_ref14_Build_4, (fcP (fcL fcI) (fcP fcI (fcP fcI (fcP fcI (fcP fcI (fcP (fcL fcI) (fcP (fcL fcI) (fcP (fcL fcI) (fcL (fcL fcI)))))))))).ok]
    all_goals first | rfl | (simp only [bitI_eq, dem_D, q_l_ref14_Build_4 N m]; done) | (simp only [bitI_eq, dem_D, q_l_ref14_Build_4 N m]; rfl)
def tl_ref14_Build_3 (N : Nat) : Nat → (List Int) × Int × Int × Int × (List Int) × (List Int) × (List Int) × (List (List Int)) → Option ((List Int) × Int × Int × (List Int) × (List Int) × (List Int) × (List (List Int)))
  | 0, _ => none
  | m + 1, v => (fcP (fcL fcI) (fcP fcI (fcP fcI (fcP fcI (fcP (fcL fcI) (fcP (fcL fcI) (fcP (fcL fcI) (fcL (fcL fcI))))))))).f v fun (heights, n, i, h, l, v902, v903, v905) => obind (nthI heights i) fun z1 =>
  cond (decide (h < z1))
   (obind (tl_ref14_Build_4 N N (heights, (n, (i, (h, ((1 : Int), (l, (v902, (v903, v905))))))))) fun z2 =>
    obind (remI (IntKind.wrap .i64 (z2.2.2.1 + z2.2.2.2.2.1)) z2.2.1) fun z3 =>
    obind (appI (8 : Nat) z2.2.2.2.2.2.1 [z3]) fun z4 =>
    (tl_ref14_Build_3 N m (z2.1, (z2.2.1, (z2.2.2.1, ((IntKind.wrap .i64 (z2.2.2.2.1 + (1 : Int))), (z4, (z2.2.2.2.2.2.2.1, (z2.2.2.2.2.2.2.2.1, z2.2.2.2.2.2.2.2.2)))))))))
   (some (heights, (n, (i, (l, (v902, (v903, v905)))))))
theorem q_l_ref14_Build_3 (N : Nat) : ∀ (m : Nat) (v : (List Int) × Int × Int × Int × (List Int) × (List Int) × (List Int) × (List (List Int))), l_ref14_Build_3 N m v = tl_ref14_Build_3 N m v
  | 0, _ => by kernel_rfl
  | m + 1, (heights, n, i, h, l, v902, v903, v905) => by
    rw [l_ref14_Build_3_s, tl_ref14_Build_3, (fcP (fcL fcI) (fcP fcI (fcP fcI (fcP fcI (fcP (fcL fcI) (fcP (fcL fcI) (fcP (fcL fcI) (fcL (fcL fcI))))))))).ok]
    all_goals first | rfl | (simp only [q_l_ref14_Build_4, bitI_eq, dem_D, q_l_ref14_Build_3 N m]; done) | (simp only [q_l_ref14_Build_4, bitI_eq, dem_D, q_l_ref14_Build_3 N m]; rfl)
def tl_ref14_Build_2 (N : Nat) : Nat → (List Int) × Int × Int × (List Int) × (List Int) × (List (List Int)) → Option ((List Int) × (List Int) × (List (List Int)))
  | 0, _ => none
  | m + 1, v => (fcP (fcL fcI) (fcP fcI (fcP fcI (fcP (fcL fcI) (fcP (fcL fcI) (fcL (fcL fcI))))))).f v fun (heights, n, i, v902, v903, v904) => cond (decide (i < n))
   (obind (tl_ref14_Build_3 N N (heights, (n, (i, ((0 : Int), ([], (v902, (v903, v904)))))))) fun z1 =>
    obind (appI (24 : Nat) z1.2.2.2.2.2.2 [z1.2.2.2.1]) fun z2 =>
    (tl_ref14_Build_2 N m (z1.1, (z1.2.1, ((IntKind.wrap .i64 (z1.2.2.1 + (1 : Int))), (z1.2.2.2.2.1, (z1.2.2.2.2.2.1, z2)))))))
   (some (v902, (v903, v904)))
theorem q_l_ref14_Build_2 (N : Nat) : ∀ (m : Nat) (v : (List Int) × Int × Int × (List Int) × (List Int) × (List (List Int))), l_ref14_Build_2 N m v = tl_ref14_Build_2 N m v
  | 0, _ => by kernel_rfl
  | m + 1, (heights, n, i, v902, v903, v904) => by
    rw [l_ref14_Build_2_s, tl_ref14_Build_2, (fcP (fcL fcI) (fcP fcI (fcP fcI (fcP (fcL fcI) (fcP (fcL fcI) (fcL (fcL fcI))))))).ok]
    all_goals first | rfl | (simp only [q_l_ref14_Build_3, bitI_eq, dem_D, q_l_ref14_Build_2 N m]; done) | (simp only [q_l_ref14_Build_3, bitI_eq, dem_D, q_l_ref14_Build_2 N m]; rfl)
def tl_ref14_Build_1 (N : Nat) : Nat → (List Int) × (List Int) × Int × Int → Option (((List Int) × (List Int) × Int) ⊕ (Int))
  | 0, _ => none
  | m + 1, v => (fcP (fcL fcI) (fcP (fcL fcI) (fcP fcI fcI))).f v fun (tokens, heights, n, i) => cond (decide (i < n))
   (obind (nthI heights i) fun z1 =>
    cond (decide (z1 < (1 : Int)))
     (some (.inr (1 : Int)))
     (obind (nthI heights i) fun z2 =>
      cond (decide ((8 : Int) < z2))
       (some (.inr (1 : Int)))
       ((tl_ref14_Build_1 N m (tokens, (heights, (n, (IntKind.wrap .i64 (i + (1 : Int))))))))))
   (some (.inl (tokens, (heights, n))))
theorem q_l_ref14_Build_1 (N : Nat) : ∀ (m : Nat) (v : (List Int) × (List Int) × Int × Int), l_ref14_Build_1 N m v = tl_ref14_Build_1 N m v
  | 0, _ => by kernel_rfl
  | m + 1, (tokens, heights, n, i) => by
    rw [l_ref14_Build_1_s, tl_ref14_Build_1, (fcP (fcL fcI) (fcP (fcL fcI) (fcP fcI fcI))).ok]
    all_goals first | rfl | (simp only [bitI_eq, dem_D, q_l_ref14_Build_1 N m]; done) | (simp only [bitI_eq, dem_D, q_l_ref14_Build_1 N m]; rfl)
def t_ref14_Build : Nat → (List Int) × (List Int) → Option (Int × (List Int) × (List Int) × (List (List Int)))
  | 0, _ => none
  | N + 1, v => (fcP (fcL fcI) (fcL fcI)).f v fun (tokens, heights) => obind (t_ref13_Right N tokens) fun z1 =>
  cond (!z1)
   (some ((1 : Int), ([], ([], []))))
   (cond (decide ((((List.length tokens) : Nat) : Int) = (0 : Int)))
     (some ((1 : Int), ([], ([], []))))
     (cond (!(decide ((((List.length heights) : Nat) : Int) = (((List.length tokens) : Nat) : Int))))
       (some ((1 : Int), ([], ([], []))))
       (obind (tl_ref14_Build_1 N N (tokens, (heights, ((((List.length tokens) : Nat) : Int), (0 : Int))))) fun z2 =>
        (match z2 with
        | .inl zy3 => obind (appI (8 : Nat) [] zy3.1) fun z4 =>
          obind (appI (8 : Nat) [] zy3.2.1) fun z5 =>
          obind (tl_ref14_Build_2 N N (zy3.2.1, (zy3.2.2, ((0 : Int), (z4, (z5, [])))))) fun z6 =>
          some ((0 : Int), (z6.1, (z6.2.1, z6.2.2)))
        | .inr zy7 => some (zy7, ([], ([], [])))))))
theorem q_m_ref14_Build : ∀ (N : Nat) (v : (List Int) × (List Int)), m_ref14_Build N v = t_ref14_Build N v
  | 0, _ => by kernel_rfl
  | N + 1, (tokens, heights) => by
    rw [m_ref14_Build_eq, t_ref14_Build, (fcP (fcL fcI) (fcL fcI)).ok]
    all_goals first | rfl | (simp only [q_l_ref14_Build_1, q_l_ref14_Build_2, q_m_ref13_Right, bitI_eq, dem_D]; done) | (simp only [q_l_ref14_Build_1, q_l_ref14_Build_2, q_m_ref13_Right, bitI_eq, dem_D]; rfl)
def tl_pool_Make_1 (N : Nat) : Nat → Int × Int × Int × (List Int) × (List Int) → Option ((List Int) × (List Int))
  | 0, _ => none
  | m + 1, v => (fcP fcI (fcP fcI (fcP fcI (fcP (fcL fcI) (fcL fcI))))).f v fun (n, v16, v17, v902, v903) => cond (decide (v17 < v16))
   (obind (appI (8 : Nat) v903 [(IntKind.wrap .i64 ((IntKind.wrap .i64 (n - (1 : Int))) - v17))]) fun z1 =>
    (tl_pool_Make_1 N m (n, (v16, ((IntKind.wrap .i64 (v17 + (1 : Int))), (v902, z1))))))
   (some (v902, v903))
theorem q_l_pool_Make_1 (N : Nat) : ∀ (m : Nat) (v : Int × Int × Int × (List Int) × (List Int)), l_pool_Make_1 N m v = tl_pool_Make_1 N m v
  | 0, _ => by kernel_rfl
  | m + 1, (n, v16, v17, v902, v903) => by
    rw [l_pool_Make_1_s, tl_pool_Make_1, (fcP fcI (fcP fcI (fcP fcI (fcP (fcL fcI) (fcL fcI))))).ok]
    all_goals first | rfl | (simp only [bitI_eq, dem_D, q_l_pool_Make_1 N m]; done) | (simp only [bitI_eq, dem_D, q_l_pool_Make_1 N m]; rfl)
def t_pool_Make : Nat → Int → Option (Int × (List Int) × (List Int))
  | 0, _ => none
  | N + 1, v => fcI.f v fun (n) => cond (decide (n < (1 : Int)))
   (some ((1 : Int), ([], [])))
   (cond (decide ((1000 : Int) < n))
     (some ((1 : Int), ([], [])))
     (obind (makI n (8 : Nat)) fun z1 =>
      obind (tl_pool_Make_1 N N (n, (n, ((0 : Int), ((List.replicate z1 (0 : Int)), []))))) fun z2 =>
      some ((0 : Int), (z2.1, z2.2))))
theorem q_m_pool_Make : ∀ (N : Nat) (v : Int), m_pool_Make N v = t_pool_Make N v
  | 0, _ => by kernel_rfl
  | N + 1, (n) => by
    rw [m_pool_Make_eq, t_pool_Make, fcI.ok]
    all_goals first | rfl | (simp only [q_l_pool_Make_1, bitI_eq, dem_D]; done) | (simp only [q_l_pool_Make_1, bitI_eq, dem_D]; rfl)
def t_store_Make : Nat → Int → Option (Int × (List Int) × (List Int) × (List (Int × (Int × (List (Int × Int))))))
  | 0, _ => none
  | N + 1, v => fcI.f v fun (n) => obind (t_pool_Make N n) fun z1 =>
  cond (!(decide (z1.1 = (0 : Int))))
   (some (z1.1, ([], ([], []))))
   (obind (makI n (40 : Nat)) fun z2 =>
    some ((0 : Int), (z1.2.1, (z1.2.2, (List.replicate z2 ((0 : Int), ((0 : Int), [])))))))
theorem q_m_store_Make : ∀ (N : Nat) (v : Int), m_store_Make N v = t_store_Make N v
  | 0, _ => by kernel_rfl
  | N + 1, (n) => by
    rw [m_store_Make_eq, t_store_Make, fcI.ok]
    all_goals first | rfl | (simp only [q_m_pool_Make, bitI_eq, dem_D]; done) | (simp only [q_m_pool_Make, bitI_eq, dem_D]; rfl)
def tl_slices_Min_Lint_int_1 (N : Nat) : Nat → (List Int) × Int × Int → Option (Int)
  | 0, _ => none
  | m + 1, v => (fcP (fcL fcI) (fcP fcI fcI)).f v fun (x, v3, i) => cond (decide (i < (((List.length x) : Nat) : Int)))
   (obind (nthI x i) fun z1 =>
    (tl_slices_Min_Lint_int_1 N m (x, ((if (z1 < v3) then z1 else v3), (IntKind.wrap .i64 (i + (1 : Int)))))))
   (some v3)
theorem q_l_slices_Min_Lint_int_1 (N : Nat) : ∀ (m : Nat) (v : (List Int) × Int × Int), l_slices_Min_Lint_int_1 N m v = tl_slices_Min_Lint_int_1 N m v
  | 0, _ => by kernel_rfl
  | m + 1, (x, v3, i) => by
    rw [l_slices_Min_Lint_int_1_s, tl_slices_Min_Lint_int_1, (fcP (fcL fcI) (fcP fcI fcI)).ok]
    all_goals first | rfl | (simp only [bitI_eq, dem_D, q_l_slices_Min_Lint_int_1 N m]; done) | (simp only [bitI_eq, dem_D, q_l_slices_Min_Lint_int_1 N m]; rfl)
def t_slices_Min_Lint_int : Nat → (List Int) → Option (Int)
  | 0, _ => none
  | N + 1, v => (fcL fcI).f v fun (x) => cond (decide ((((List.length x) : Nat) : Int) < (1 : Int)))
   (none)
   (obind (nthI x (0 : Int)) fun z1 =>
    obind (tl_slices_Min_Lint_int_1 N N (x, (z1, (1 : Int)))) fun z2 =>
    some z2)
theorem q_m_slices_Min_Lint_int : ∀ (N : Nat) (v : (List Int)), m_slices_Min_Lint_int N v = t_slices_Min_Lint_int N v
  | 0, _ => by kernel_rfl
  | N + 1, (x) => by
    rw [m_slices_Min_Lint_int_eq, t_slices_Min_Lint_int, (fcL fcI).ok]
    all_goals first | rfl | (simp only [q_l_slices_Min_Lint_int_1, bitI_eq, dem_D]; done) | (simp only [q_l_slices_Min_Lint_int_1, bitI_eq, dem_D]; rfl)
def tl_slices_Max_Lint_int_1 (N : Nat) : Nat → (List Int) × Int × Int → Option (Int)
  | 0, _ => none
  | m + 1, v => (fcP (fcL fcI) (fcP fcI fcI)).f v fun (x, v3, i) => cond (decide (i < (((List.length x) : Nat) : Int)))
   (obind (nthI x i) fun z1 =>
    (tl_slices_Max_Lint_int_1 N m (x, ((if (z1 > v3) then z1 else v3), (IntKind.wrap .i64 (i + (1 : Int)))))))
   (some v3)
theorem q_l_slices_Max_Lint_int_1 (N : Nat) : ∀ (m : Nat) (v : (List Int) × Int × Int), l_slices_Max_Lint_int_1 N m v = tl_slices_Max_Lint_int_1 N m v
  | 0, _ => by kernel_rfl
  | m + 1, (x, v3, i) => by
    rw [l_slices_Max_Lint_int_1_s, tl_slices_Max_Lint_int_1, (fcP (fcL fcI) (fcP fcI fcI)).ok]
    all_goals first | rfl | (simp only [bitI_eq, dem_D, q_l_slices_Max_Lint_int_1 N m]; done) | (simp only [bitI_eq, dem_D, q_l_slices_Max_Lint_int_1 N m]; rfl)
def t_slices_Max_Lint_int : Nat → (List Int) → Option (Int)
  | 0, _ => none
  | N + 1, v => (fcL fcI).f v fun (x) => cond (decide ((((List.length x) : Nat) : Int) < (1 : Int)))
   (none)
   (obind (nthI x (0 : Int)) fun z1 =>
    obind (tl_slices_Max_Lint_int_1 N N (x, (z1, (1 : Int)))) fun z2 =>
    some z2)
theorem q_m_slices_Max_Lint_int : ∀ (N : Nat) (v : (List Int)), m_slices_Max_Lint_int N v = t_slices_Max_Lint_int N v
  | 0, _ => by kernel_rfl
  | N + 1, (x) => by
    rw [m_slices_Max_Lint_int_eq, t_slices_Max_Lint_int, (fcL fcI).ok]
    all_goals first | rfl | (simp only [q_l_slices_Max_Lint_int_1, bitI_eq, dem_D]; done) | (simp only [q_l_slices_Max_Lint_int_1, bitI_eq, dem_D]; rfl)
def tl_pool_Right_1 (N : Nat) : Nat → Int × (List Int) × Int × Int × (List (Int × Int)) → Option ((Unit) ⊕ (Bool))
  | 0, _ => none
  | m + 1, v => (fcP fcI (fcP (fcL fcI) (fcP fcI (fcP fcI (fcL (fcP fcI fcI)))))).f v fun (n, v30, v31, v32, met) => cond (decide (v32 < v31))
   (obind (nthI v30 v32) fun z1 =>
    cond (decide (z1 < (0 : Int)))
     (some (.inr false))
     (cond (decide (n ≤ z1))
       (some (.inr false))
       (cond (decide ((1 : Int) < (Option.getD (mget (.i .i64) (mput (.i .i64) met z1 (IntKind.wrap .i64 ((Option.getD (mget (.i .i64) met z1) (0 : Int)) + (1 : Int)))) z1) (0 : Int))))
         (some (.inr false))
         ((tl_pool_Right_1 N m (n, (v30, (v31, ((IntKind.wrap .i64 (v32 + (1 : Int))), (mput (.i .i64) met z1 (IntKind.wrap .i64 ((Option.getD (mget (.i .i64) met z1) (0 : Int)) + (1 : Int)))))))))))))
   (some (.inl ()))
theorem q_l_pool_Right_1 (N : Nat) : ∀ (m : Nat) (v : Int × (List Int) × Int × Int × (List (Int × Int))), l_pool_Right_1 N m v = tl_pool_Right_1 N m v
  | 0, _ => by kernel_rfl
  | m + 1, (n, v30, v31, v32, met) => by
    rw [l_pool_Right_1_s, tl_pool_Right_1, (fcP fcI (fcP (fcL fcI) (fcP fcI (fcP fcI (fcL (fcP fcI fcI)))))).ok]
    all_goals first | rfl | (simp only [bitI_eq, dem_D, q_l_pool_Right_1 N m]; done) | (simp only [bitI_eq, dem_D, q_l_pool_Right_1 N m]; rfl)
def t_pool_Right : Nat → (List Int) × (List Int) → Option (Bool)
  | 0, _ => none
  | N + 1, v => (fcP (fcL fcI) (fcL fcI)).f v fun (p, p2) => cond (decide ((((List.length p) : Nat) : Int) = (0 : Int)))
   (some false)
   (cond (decide ((1000 : Int) < (((List.length p) : Nat) : Int)))
     (some false)
     (obind (t_slices_Min_Lint_int N p) fun z1 =>
      cond (decide (z1 < (0 : Int)))
       (some false)
       (obind (t_slices_Max_Lint_int N p) fun z2 =>
        cond (decide ((1073741824 : Int) < z2))
         (some false)
         (obind (tl_pool_Right_1 N N ((((List.length p) : Nat) : Int), (p2, ((((List.length p2) : Nat) : Int), ((0 : Int), []))))) fun z3 =>
          (match z3 with
          | .inl zy4 => some true
          | .inr zy5 => some zy5)))))
theorem q_m_pool_Right : ∀ (N : Nat) (v : (List Int) × (List Int)), m_pool_Right N v = t_pool_Right N v
  | 0, _ => by kernel_rfl
  | N + 1, (p, p2) => by
    rw [m_pool_Right_eq, t_pool_Right, (fcP (fcL fcI) (fcL fcI)).ok]
    all_goals first | rfl | (simp only [q_l_pool_Right_1, q_m_slices_Max_Lint_int, q_m_slices_Min_Lint_int, bitI_eq, dem_D]; done) | (simp only [q_l_pool_Right_1, q_m_slices_Max_Lint_int, q_m_slices_Min_Lint_int, bitI_eq, dem_D]; rfl)
def tl_slices_Index_Lint_int_1 (N : Nat) : Nat → (List Int) × Int × Int × Int → Option ((Unit) ⊕ (Int))
  | 0, _ => none
  | m + 1, v => (fcP (fcL fcI) (fcP fcI (fcP fcI fcI))).f v fun (s, v, v7, v8) => cond (decide (v8 < v7))
   (obind (nthI s v8) fun z1 =>
    cond (decide (v = z1))
     (some (.inr v8))
     ((tl_slices_Index_Lint_int_1 N m (s, (v, (v7, (IntKind.wrap .i64 (v8 + (1 : Int)))))))))
   (some (.inl ()))
theorem q_l_slices_Index_Lint_int_1 (N : Nat) : ∀ (m : Nat) (v : (List Int) × Int × Int × Int), l_slices_Index_Lint_int_1 N m v = tl_slices_Index_Lint_int_1 N m v
  | 0, _ => by kernel_rfl
  | m + 1, (s, v, v7, v8) => by
    rw [l_slices_Index_Lint_int_1_s, tl_slices_Index_Lint_int_1, (fcP (fcL fcI) (fcP fcI (fcP fcI fcI))).ok]
    all_goals first | rfl | (simp only [bitI_eq, dem_D, q_l_slices_Index_Lint_int_1 N m]; done) | (simp only [bitI_eq, dem_D, q_l_slices_Index_Lint_int_1 N m]; rfl)
def t_slices_Index_Lint_int : Nat → (List Int) × Int → Option (Int)
  | 0, _ => none
  | N + 1, v => (fcP (fcL fcI) fcI).f v fun (s, v) => obind (tl_slices_Index_Lint_int_1 N N (s, (v, ((((List.length s) : Nat) : Int), (0 : Int))))) fun z1 =>
  (match z1 with
  | .inl zy2 => some (-(1 : Int))
  | .inr zy3 => some zy3)
theorem q_m_slices_Index_Lint_int : ∀ (N : Nat) (v : (List Int) × Int), m_slices_Index_Lint_int N v = t_slices_Index_Lint_int N v
  | 0, _ => by kernel_rfl
  | N + 1, (s, v) => by
    rw [m_slices_Index_Lint_int_eq, t_slices_Index_Lint_int, (fcP (fcL fcI) fcI).ok]
    all_goals first | rfl | (simp only [q_l_slices_Index_Lint_int_1, bitI_eq, dem_D]; done) | (simp only [q_l_slices_Index_Lint_int_1, bitI_eq, dem_D]; rfl)
def t_slices_Contains_Lint_int : Nat → (List Int) × Int → Option (Bool)
  | 0, _ => none
  | N + 1, v => (fcP (fcL fcI) fcI).f v fun (s, v) => obind (t_slices_Index_Lint_int N (s, v)) fun z1 =>
  some (decide ((0 : Int) ≤ z1))
theorem q_m_slices_Contains_Lint_int : ∀ (N : Nat) (v : (List Int) × Int), m_slices_Contains_Lint_int N v = t_slices_Contains_Lint_int N v
  | 0, _ => by kernel_rfl
  | N + 1, (s, v) => by
    rw [m_slices_Contains_Lint_int_eq, t_slices_Contains_Lint_int, (fcP (fcL fcI) fcI).ok]
    all_goals first | rfl | (simp only [q_m_slices_Index_Lint_int, bitI_eq, dem_D]; done) | (simp only [q_m_slices_Index_Lint_int, bitI_eq, dem_D]; rfl)
def t_store_empty : Nat → Int × Int × (List (Int × Int)) → Option (Bool)
  | 0, _ => none
  | N + 1, v => (fcP fcI (fcP fcI (fcL (fcP fcI fcI)))).f v fun (x, x2, x3) => cond (decide (x = (0 : Int)))
   (cond (decide (x2 = (0 : Int)))
     (some (decide ((((List.length x3) : Nat) : Int) = (0 : Int))))
     (some false))
   (some false)
theorem q_m_store_empty : ∀ (N : Nat) (v : Int × Int × (List (Int × Int))), m_store_empty N v = t_store_empty N v
  | 0, _ => by kernel_rfl
  | N + 1, (x, x2, x3) => by
    rw [m_store_empty_eq, t_store_empty, (fcP fcI (fcP fcI (fcL (fcP fcI fcI)))).ok]
    all_goals first | rfl | (simp only [bitI_eq, dem_D]; done) | (simp only [bitI_eq, dem_D]; rfl)
def t_pool_Good : Nat → (List Int) × (List Int) × Int × Int → Option (Bool)
  | 0, _ => none
  | N + 1, v => (fcP (fcL fcI) (fcP (fcL fcI) (fcP fcI fcI))).f v fun (p, p2, h, h2) => obind (t_pool_Right N (p, p2)) fun z1 =>
  cond z1
   (cond (decide ((0 : Int) ≤ h))
     (cond (decide (h < (((List.length p) : Nat) : Int)))
       (obind (nthI p h) fun z2 =>
        cond (decide (z2 = h2))
         (obind (t_slices_Contains_Lint_int N (p2, h)) fun z3 =>
          some (!z3))
         (some false))
       (some false))
     (some false))
   (some false)
theorem q_m_pool_Good : ∀ (N : Nat) (v : (List Int) × (List Int) × Int × Int), m_pool_Good N v = t_pool_Good N v
  | 0, _ => by kernel_rfl
  | N + 1, (p, p2, h, h2) => by
    rw [m_pool_Good_eq, t_pool_Good, (fcP (fcL fcI) (fcP (fcL fcI) (fcP fcI fcI))).ok]
    all_goals first | rfl | (simp only [q_m_pool_Right, q_m_slices_Contains_Lint_int, bitI_eq, dem_D]; done) | (simp only [q_m_pool_Right, q_m_slices_Contains_Lint_int, bitI_eq, dem_D]; rfl)
def t_store_fullF1_phh : Nat → Int × Int × (List Int) × (List Int) → Option (Bool × (List Int) × (List Int))
  | 0, _ => none
  | N + 1, v => (fcP fcI (fcP fcI (fcP (fcL fcI) (fcL fcI)))).f v fun (h, h2, v4294967296, v42949672962) => obind (t_pool_Good N (v4294967296, (v42949672962, (h, h2)))) fun z1 =>
  some ((!z1), (v4294967296, v42949672962))
theorem q_m_store_fullF1_phh : ∀ (N : Nat) (v : Int × Int × (List Int) × (List Int)), m_store_fullF1_phh N v = t_store_fullF1_phh N v
  | 0, _ => by kernel_rfl
  | N + 1, (h, h2, v4294967296, v42949672962) => by
    rw [m_store_fullF1_phh_eq, t_store_fullF1_phh, (fcP fcI (fcP fcI (fcP (fcL fcI) (fcL fcI)))).ok]
    all_goals first | rfl | (simp only [q_m_pool_Good, bitI_eq, dem_D]; done) | (simp only [q_m_pool_Good, bitI_eq, dem_D]; rfl)
def tl_slices_IndexFunc_Lapi_Handle_api_Handle_store_fullF1_f74phh_1 (N : Nat) : Nat → (List (Int × Int)) × Int × Int × (List Int) × (List Int) → Option (((List Int) × (List Int)) ⊕ (Int × (List Int) × (List Int)))
  | 0, _ => none
  | m + 1, v => (fcP (fcL (fcP fcI fcI)) (fcP fcI (fcP fcI (fcP (fcL fcI) (fcL fcI))))).f v fun (s, v7, v8, f, f2) => cond (decide (v8 < v7))
   (obind (nthI s v8) fun z1 =>
    obind (t_store_fullF1_phh N (z1.1, (z1.2, (f, f2)))) fun z2 =>
    cond z2.1
     (some (.inr (v8, (z2.2.1, z2.2.2))))
     ((tl_slices_IndexFunc_Lapi_Handle_api_Handle_store_fullF1_f74phh_1 N m (s, (v7, ((IntKind.wrap .i64 (v8 + (1 : Int))), (z2.2.1, z2.2.2)))))))
   (some (.inl (f, f2)))
theorem q_l_slices_IndexFunc_Lapi_Handle_api_Handle_store_fullF1_f74phh_1 (N : Nat) : ∀ (m : Nat) (v : (List (Int × Int)) × Int × Int × (List Int) × (List Int)), l_slices_IndexFunc_Lapi_Handle_api_Handle_store_fullF1_f74phh_1 N m v = tl_slices_IndexFunc_Lapi_Handle_api_Handle_store_fullF1_f74phh_1 N m v
  | 0, _ => by kernel_rfl
  | m + 1, (s, v7, v8, f, f2) => by
    rw [l_slices_IndexFunc_Lapi_Handle_api_Handle_store_fullF1_f74phh_1_s, tl_slices_IndexFunc_Lapi_Handle_api_Handle_store_fullF1_f74phh_1, (fcP (fcL (fcP fcI fcI)) (fcP fcI (fcP fcI (fcP (fcL fcI) (fcL fcI))))).ok]
    all_goals first | rfl | (simp only [q_m_store_fullF1_phh, bitI_eq, dem_D, q_l_slices_IndexFunc_Lapi_Handle_api_Handle_store_fullF1_f74phh_1 N m]; done) | (simp only [q_m_store_fullF1_phh, bitI_eq, dem_D, q_l_slices_IndexFunc_Lapi_Handle_api_Handle_store_fullF1_f74phh_1 N m]; rfl)
def t_slices_IndexFunc_Lapi_Handle_api_Handle_store_fullF1_f74phh : Nat → (List (Int × Int)) × (List Int) × (List Int) → Option (Int × (List Int) × (List Int))
  | 0, _ => none
  | N + 1, v => (fcP (fcL (fcP fcI fcI)) (fcP (fcL fcI) (fcL fcI))).f v fun (s, f, f2) => obind (tl_slices_IndexFunc_Lapi_Handle_api_Handle_store_fullF1_f74phh_1 N N (s, ((((List.length s) : Nat) : Int), ((0 : Int), (f, f2))))) fun z1 =>
  (match z1 with
  | .inl zy2 => some ((-(1 : Int)), (zy2.1, zy2.2))
  | .inr zy3 => some (zy3.1, (zy3.2.1, zy3.2.2)))
theorem q_m_slices_IndexFunc_Lapi_Handle_api_Handle_store_fullF1_f74phh : ∀ (N : Nat) (v : (List (Int × Int)) × (List Int) × (List Int)), m_slices_IndexFunc_Lapi_Handle_api_Handle_store_fullF1_f74phh N v = t_slices_IndexFunc_Lapi_Handle_api_Handle_store_fullF1_f74phh N v
  | 0, _ => by kernel_rfl
  | N + 1, (s, f, f2) => by
    rw [m_slices_IndexFunc_Lapi_Handle_api_Handle_store_fullF1_f74phh_eq, t_slices_IndexFunc_Lapi_Handle_api_Handle_store_fullF1_f74phh, (fcP (fcL (fcP fcI fcI)) (fcP (fcL fcI) (fcL fcI))).ok]
    all_goals first | rfl | (simp only [q_l_slices_IndexFunc_Lapi_Handle_api_Handle_store_fullF1_f74phh_1, bitI_eq, dem_D]; done) | (simp only [q_l_slices_IndexFunc_Lapi_Handle_api_Handle_store_fullF1_f74phh_1, bitI_eq, dem_D]; rfl)
def t_slices_ContainsFunc_Lapi_Handle_api_Handle_store_fullF1_f74phh : Nat → (List (Int × Int)) × (List Int) × (List Int) → Option (Bool × (List Int) × (List Int))
  | 0, _ => none
  | N + 1, v => (fcP (fcL (fcP fcI fcI)) (fcP (fcL fcI) (fcL fcI))).f v fun (s, f, f2) => obind (t_slices_IndexFunc_Lapi_Handle_api_Handle_store_fullF1_f74phh N (s, (f, f2))) fun z1 =>
  some ((decide ((0 : Int) ≤ z1.1)), (z1.2.1, z1.2.2))
theorem q_m_slices_ContainsFunc_Lapi_Handle_api_Handle_store_fullF1_f74phh : ∀ (N : Nat) (v : (List (Int × Int)) × (List Int) × (List Int)), m_slices_ContainsFunc_Lapi_Handle_api_Handle_store_fullF1_f74phh N v = t_slices_ContainsFunc_Lapi_Handle_api_Handle_store_fullF1_f74phh N v
  | 0, _ => by kernel_rfl
  | N + 1, (s, f, f2) => by
    rw [m_slices_ContainsFunc_Lapi_Handle_api_Handle_store_fullF1_f74phh_eq, t_slices_ContainsFunc_Lapi_Handle_api_Handle_store_fullF1_f74phh, (fcP (fcL (fcP fcI fcI)) (fcP (fcL fcI) (fcL fcI))).ok]
    all_goals first | rfl | (simp only [q_m_slices_IndexFunc_Lapi_Handle_api_Handle_store_fullF1_f74phh, bitI_eq, dem_D]; done) | (simp only [q_m_slices_IndexFunc_Lapi_Handle_api_Handle_store_fullF1_f74phh, bitI_eq, dem_D]; rfl)
def t_store_full : Nat → (List Int) × (List Int) × Int × Int × (List (Int × Int)) → Option (Bool)
  | 0, _ => none
  | N + 1, v => (fcP (fcL fcI) (fcP (fcL fcI) (fcP fcI (fcP fcI (fcL (fcP fcI fcI)))))).f v fun (p, p2, x, x2, x3) => cond (decide (x < (0 : Int)))
   (some false)
   (cond (decide (x2 < (1 : Int)))
     (some false)
     (cond (decide ((8 : Int) < x2))
       (some false)
       (cond (!(decide ((((List.length x3) : Nat) : Int) = x2)))
         (some false)
         (obind (t_slices_ContainsFunc_Lapi_Handle_api_Handle_store_fullF1_f74phh N (x3, (p, p2))) fun z1 =>
          some (!z1.1)))))
theorem q_m_store_full : ∀ (N : Nat) (v : (List Int) × (List Int) × Int × Int × (List (Int × Int))), m_store_full N v = t_store_full N v
  | 0, _ => by kernel_rfl
  | N + 1, (p, p2, x, x2, x3) => by
    rw [m_store_full_eq, t_store_full, (fcP (fcL fcI) (fcP (fcL fcI) (fcP fcI (fcP fcI (fcL (fcP fcI fcI)))))).ok]
    all_goals first | rfl | (simp only [q_m_slices_ContainsFunc_Lapi_Handle_api_Handle_store_fullF1_f74phh, bitI_eq, dem_D]; done) | (simp only [q_m_slices_ContainsFunc_Lapi_Handle_api_Handle_store_fullF1_f74phh, bitI_eq, dem_D]; rfl)
def tl_store_Right_1 (N : Nat) : Nat → (List (Int × (Int × (List (Int × Int))))) × Int × Int × (List Int) × (List Int) × (List (Int × (Int × (List (Int × Int))))) → Option ((Unit) ⊕ (Bool))
  | 0, _ => none
  | m + 1, v => (fcP (fcL (fcP fcI (fcP fcI (fcL (fcP fcI fcI))))) (fcP fcI (fcP fcI (fcP (fcL fcI) (fcP (fcL fcI) (fcL (fcP fcI (fcP fcI (fcL (fcP fcI fcI)))))))))).f v fun (v20, v21, v22, s, s2, s3) => cond (decide (v22 < v21))
   (obind (nthI v20 v22) fun z1 =>
    obind (t_slices_Contains_Lint_int N (s2, v22)) fun z2 =>
    cond z2
     (obind (t_store_empty N (z1.1, (z1.2.1, z1.2.2))) fun z3 =>
      cond (!z3)
       (some (.inr false))
       ((tl_store_Right_1 N m (v20, (v21, ((IntKind.wrap .i64 (v22 + (1 : Int))), (s, (s2, s3))))))))
     (obind (t_store_full N (s, (s2, (z1.1, (z1.2.1, z1.2.2))))) fun z4 =>
      cond (!z4)
       (some (.inr false))
       ((tl_store_Right_1 N m (v20, (v21, ((IntKind.wrap .i64 (v22 + (1 : Int))), (s, (s2, s3)))))))))
   (some (.inl ()))
theorem q_l_store_Right_1 (N : Nat) : ∀ (m : Nat) (v : (List (Int × (Int × (List (Int × Int))))) × Int × Int × (List Int) × (List Int) × (List (Int × (Int × (List (Int × Int)))))), l_store_Right_1 N m v = tl_store_Right_1 N m v
  | 0, _ => by kernel_rfl
  | m + 1, (v20, v21, v22, s, s2, s3) => by
    rw [l_store_Right_1_s, tl_store_Right_1, (fcP (fcL (fcP fcI (fcP fcI (fcL (fcP fcI fcI))))) (fcP fcI (fcP fcI (fcP (fcL fcI) (fcP (fcL fcI) (fcL (fcP fcI (fcP fcI (fcL (fcP fcI fcI)))))))))).ok]
    all_goals first | rfl | (simp only [q_m_slices_Contains_Lint_int, q_m_store_empty, q_m_store_full, bitI_eq, dem_D, q_l_store_Right_1 N m]; done) | (simp only [q_m_slices_Contains_Lint_int, q_m_store_empty, q_m_store_full, bitI_eq, dem_D, q_l_store_Right_1 N m]; rfl)
def t_store_Right : Nat → (List Int) × (List Int) × (List (Int × (Int × (List (Int × Int))))) → Option (Bool)
  | 0, _ => none
  | N + 1, v => (fcP (fcL fcI) (fcP (fcL fcI) (fcL (fcP fcI (fcP fcI (fcL (fcP fcI fcI))))))).f v fun (s, s2, s3) => obind (t_pool_Right N (s, s2)) fun z1 =>
  cond (!z1)
   (some false)
   (cond (!(decide ((((List.length s3) : Nat) : Int) = (((List.length s) : Nat) : Int))))
     (some false)
     (obind (tl_store_Right_1 N N (s3, ((((List.length s3) : Nat) : Int), ((0 : Int), (s, (s2, s3)))))) fun z2 =>
      (match z2 with
      | .inl zy3 => some true
      | .inr zy4 => some zy4)))
theorem q_m_store_Right : ∀ (N : Nat) (v : (List Int) × (List Int) × (List (Int × (Int × (List (Int × Int)))))), m_store_Right N v = t_store_Right N v
  | 0, _ => by kernel_rfl
  | N + 1, (s, s2, s3) => by
    rw [m_store_Right_eq, t_store_Right, (fcP (fcL fcI) (fcP (fcL fcI) (fcL (fcP fcI (fcP fcI (fcL (fcP fcI fcI))))))).ok]
    all_goals first | rfl | (simp only [q_l_store_Right_1, q_m_pool_Right, bitI_eq, dem_D]; done) | (simp only [q_l_store_Right_1, q_m_pool_Right, bitI_eq, dem_D]; rfl)
def t_ring_RightF1 : Nat → Int → Option (Bool)
  | 0, _ => none
  | N + 1, v => fcI.f v fun (t) => cond (decide (t < (0 : Int)))
   (some true)
   (some (decide ((10000 : Int) < t)))
theorem q_m_ring_RightF1 : ∀ (N : Nat) (v : Int), m_ring_RightF1 N v = t_ring_RightF1 N v
  | 0, _ => by kernel_rfl
  | N + 1, (t) => by
    rw [m_ring_RightF1_eq, t_ring_RightF1, fcI.ok]
    all_goals first | rfl | (simp only [bitI_eq, dem_D]; done) | (simp only [bitI_eq, dem_D]; rfl)
def tl_slices_IndexFunc_Lint_int_ring_RightF1_1 (N : Nat) : Nat → (List Int) × Int × Int → Option ((Unit) ⊕ (Int))
  | 0, _ => none
  | m + 1, v => (fcP (fcL fcI) (fcP fcI fcI)).f v fun (s, v7, v8) => cond (decide (v8 < v7))
   (obind (nthI s v8) fun z1 =>
    obind (t_ring_RightF1 N z1) fun z2 =>
    cond z2
     (some (.inr v8))
     ((tl_slices_IndexFunc_Lint_int_ring_RightF1_1 N m (s, (v7, (IntKind.wrap .i64 (v8 + (1 : Int))))))))
   (some (.inl ()))
theorem q_l_slices_IndexFunc_Lint_int_ring_RightF1_1 (N : Nat) : ∀ (m : Nat) (v : (List Int) × Int × Int), l_slices_IndexFunc_Lint_int_ring_RightF1_1 N m v = tl_slices_IndexFunc_Lint_int_ring_RightF1_1 N m v
  | 0, _ => by kernel_rfl
  | m + 1, (s, v7, v8) => by
    rw [l_slices_IndexFunc_Lint_int_ring_RightF1_1_s, tl_slices_IndexFunc_Lint_int_ring_RightF1_1, (fcP (fcL fcI) (fcP fcI fcI)).ok]
    all_goals first | rfl | (simp only [q_m_ring_RightF1, bitI_eq, dem_D, q_l_slices_IndexFunc_Lint_int_ring_RightF1_1 N m]; done) | (simp only [q_m_ring_RightF1, bitI_eq, dem_D, q_l_slices_IndexFunc_Lint_int_ring_RightF1_1 N m]; rfl)
def t_slices_IndexFunc_Lint_int_ring_RightF1 : Nat → (List Int) → Option (Int)
  | 0, _ => none
  | N + 1, v => (fcL fcI).f v fun (s) => obind (tl_slices_IndexFunc_Lint_int_ring_RightF1_1 N N (s, ((((List.length s) : Nat) : Int), (0 : Int)))) fun z1 =>
  (match z1 with
  | .inl zy2 => some (-(1 : Int))
  | .inr zy3 => some zy3)
theorem q_m_slices_IndexFunc_Lint_int_ring_RightF1 : ∀ (N : Nat) (v : (List Int)), m_slices_IndexFunc_Lint_int_ring_RightF1 N v = t_slices_IndexFunc_Lint_int_ring_RightF1 N v
  | 0, _ => by kernel_rfl
  | N + 1, (s) => by
    rw [m_slices_IndexFunc_Lint_int_ring_RightF1_eq, t_slices_IndexFunc_Lint_int_ring_RightF1, (fcL fcI).ok]
    all_goals first | rfl | (simp only [q_l_slices_IndexFunc_Lint_int_ring_RightF1_1, bitI_eq, dem_D]; done) | (simp only [q_l_slices_IndexFunc_Lint_int_ring_RightF1_1, bitI_eq, dem_D]; rfl)
def t_slices_ContainsFunc_Lint_int_ring_RightF1 : Nat → (List Int) → Option (Bool)
  | 0, _ => none
  | N + 1, v => (fcL fcI).f v fun (s) => obind (t_slices_IndexFunc_Lint_int_ring_RightF1 N s) fun z1 =>
  some (decide ((0 : Int) ≤ z1))
theorem q_m_slices_ContainsFunc_Lint_int_ring_RightF1 : ∀ (N : Nat) (v : (List Int)), m_slices_ContainsFunc_Lint_int_ring_RightF1 N v = t_slices_ContainsFunc_Lint_int_ring_RightF1 N v
  | 0, _ => by kernel_rfl
  | N + 1, (s) => by
    rw [m_slices_ContainsFunc_Lint_int_ring_RightF1_eq, t_slices_ContainsFunc_Lint_int_ring_RightF1, (fcL fcI).ok]
    all_goals first | rfl | (simp only [q_m_slices_IndexFunc_Lint_int_ring_RightF1, bitI_eq, dem_D]; done) | (simp only [q_m_slices_IndexFunc_Lint_int_ring_RightF1, bitI_eq, dem_D]; rfl)
def tl_ring_once_int_1 (N : Nat) : Nat → (List Int) × (List Int) × Int × Int × (List (Int × Int)) → Option ((List Int) × (List (Int × Int)))
  | 0, _ => none
  | m + 1, v => (fcP (fcL fcI) (fcP (fcL fcI) (fcP fcI (fcP fcI (fcL (fcP fcI fcI)))))).f v fun (l, v7, v8, v9, met) => cond (decide (v9 < v8))
   (obind (nthI v7 v9) fun z1 =>
    (tl_ring_once_int_1 N m (l, (v7, (v8, ((IntKind.wrap .i64 (v9 + (1 : Int))), (mput (.i .i64) met z1 (IntKind.wrap .i64 ((Option.getD (mget (.i .i64) met z1) (0 : Int)) + (1 : Int))))))))))
   (some (l, met))
theorem q_l_ring_once_int_1 (N : Nat) : ∀ (m : Nat) (v : (List Int) × (List Int) × Int × Int × (List (Int × Int))), l_ring_once_int_1 N m v = tl_ring_once_int_1 N m v
  | 0, _ => by kernel_rfl
  | m + 1, (l, v7, v8, v9, met) => by
    rw [l_ring_once_int_1_s, tl_ring_once_int_1, (fcP (fcL fcI) (fcP (fcL fcI) (fcP fcI (fcP fcI (fcL (fcP fcI fcI)))))).ok]
    all_goals first | rfl | (simp only [bitI_eq, dem_D, q_l_ring_once_int_1 N m]; done) | (simp only [bitI_eq, dem_D, q_l_ring_once_int_1 N m]; rfl)
def t_ring_once_int : Nat → (List Int) → Option (Bool)
  | 0, _ => none
  | N + 1, v => (fcL fcI).f v fun (l) => obind (tl_ring_once_int_1 N N (l, (l, ((((List.length l) : Nat) : Int), ((0 : Int), []))))) fun z1 =>
  some (decide ((((List.length z1.2) : Nat) : Int) = (((List.length z1.1) : Nat) : Int)))
theorem q_m_ring_once_int : ∀ (N : Nat) (v : (List Int)), m_ring_once_int N v = t_ring_once_int N v
  | 0, _ => by kernel_rfl
  | N + 1, (l) => by
    rw [m_ring_once_int_eq, t_ring_once_int, (fcL fcI).ok]
    all_goals first | rfl | (simp only [q_l_ring_once_int_1, bitI_eq, dem_D]; done) | (simp only [q_l_ring_once_int_1, bitI_eq, dem_D]; rfl)
def t_ring_Right : Nat → (List Int) → Option (Bool)
  | 0, _ => none
  | N + 1, v => (fcL fcI).f v fun (l) => cond (decide ((1000 : Int) < (((List.length l) : Nat) : Int)))
   (some false)
   (obind (t_slices_ContainsFunc_Lint_int_ring_RightF1 N l) fun z1 =>
    cond (!z1)
     (obind (t_ring_once_int N l) fun z2 =>
      some z2)
     (some false))
theorem q_m_ring_Right : ∀ (N : Nat) (v : (List Int)), m_ring_Right N v = t_ring_Right N v
  | 0, _ => by kernel_rfl
  | N + 1, (l) => by
    rw [m_ring_Right_eq, t_ring_Right, (fcL fcI).ok]
    all_goals first | rfl | (simp only [q_m_ring_once_int, q_m_slices_ContainsFunc_Lint_int_ring_RightF1, bitI_eq, dem_D]; done) | (simp only [q_m_ring_once_int, q_m_slices_ContainsFunc_Lint_int_ring_RightF1, bitI_eq, dem_D]; rfl)
def t_tower_high : Nat → Int → Option (Bool)
  | 0, _ => none
  | N + 1, v => fcI.f v fun (h) => cond (decide ((1 : Int) ≤ h))
   (some (decide (h ≤ (8 : Int))))
   (some false)
theorem q_m_tower_high : ∀ (N : Nat) (v : Int), m_tower_high N v = t_tower_high N v
  | 0, _ => by kernel_rfl
  | N + 1, (h) => by
    rw [m_tower_high_eq, t_tower_high, fcI.ok]
    all_goals first | rfl | (simp only [bitI_eq, dem_D]; done) | (simp only [bitI_eq, dem_D]; rfl)
def t_tower_BuildF1 : Nat → Int → Option (Bool)
  | 0, _ => none
  | N + 1, v => fcI.f v fun (h) => obind (t_tower_high N h) fun z1 =>
  some (!z1)
theorem q_m_tower_BuildF1 : ∀ (N : Nat) (v : Int), m_tower_BuildF1 N v = t_tower_BuildF1 N v
  | 0, _ => by kernel_rfl
  | N + 1, (h) => by
    rw [m_tower_BuildF1_eq, t_tower_BuildF1, fcI.ok]
    all_goals first | rfl | (simp only [q_m_tower_high, bitI_eq, dem_D]; done) | (simp only [q_m_tower_high, bitI_eq, dem_D]; rfl)
def tl_slices_IndexFunc_Lint_int_tower_BuildF1_1 (N : Nat) : Nat → (List Int) × Int × Int → Option ((Unit) ⊕ (Int))
  | 0, _ => none
  | m + 1, v => (fcP (fcL fcI) (fcP fcI fcI)).f v fun (s, v7, v8) => cond (decide (v8 < v7))
   (obind (nthI s v8) fun z1 =>
    obind (t_tower_BuildF1 N z1) fun z2 =>
    cond z2
     (some (.inr v8))
     ((tl_slices_IndexFunc_Lint_int_tower_BuildF1_1 N m (s, (v7, (IntKind.wrap .i64 (v8 + (1 : Int))))))))
   (some (.inl ()))
theorem q_l_slices_IndexFunc_Lint_int_tower_BuildF1_1 (N : Nat) : ∀ (m : Nat) (v : (List Int) × Int × Int), l_slices_IndexFunc_Lint_int_tower_BuildF1_1 N m v = tl_slices_IndexFunc_Lint_int_tower_BuildF1_1 N m v
  | 0, _ => by kernel_rfl
  | m + 1, (s, v7, v8) => by
    rw [l_slices_IndexFunc_Lint_int_tower_BuildF1_1_s, tl_slices_IndexFunc_Lint_int_tower_BuildF1_1, (fcP (fcL fcI) (fcP fcI fcI)).ok]
    all_goals first | rfl | (simp only [q_m_tower_BuildF1, bitI_eq, dem_D, q_l_slices_IndexFunc_Lint_int_tower_BuildF1_1 N m]; done) | (simp only [q_m_tower_BuildF1, bitI_eq, dem_D, q_l_slices_IndexFunc_Lint_int_tower_BuildF1_1 N m]; rfl)
def t_slices_IndexFunc_Lint_int_tower_BuildF1 : Nat → (List Int) → Option (Int)
  | 0, _ => none
  | N + 1, v => (fcL fcI).f v fun (s) => obind (tl_slices_IndexFunc_Lint_int_tower_BuildF1_1 N N (s, ((((List.length s) : Nat) : Int), (0 : Int)))) fun z1 =>
  (match z1 with
  | .inl zy2 => some (-(1 : Int))
  | .inr zy3 => some zy3)
theorem q_m_slices_IndexFunc_Lint_int_tower_BuildF1 : ∀ (N : Nat) (v : (List Int)), m_slices_IndexFunc_Lint_int_tower_BuildF1 N v = t_slices_IndexFunc_Lint_int_tower_BuildF1 N v
  | 0, _ => by kernel_rfl
  | N + 1, (s) => by
    rw [m_slices_IndexFunc_Lint_int_tower_BuildF1_eq, t_slices_IndexFunc_Lint_int_tower_BuildF1, (fcL fcI).ok]
    all_goals first | rfl | (simp only [q_l_slices_IndexFunc_Lint_int_tower_BuildF1_1, bitI_eq, dem_D]; done) | (simp only [q_l_slices_IndexFunc_Lint_int_tower_BuildF1_1, bitI_eq, dem_D]; rfl)
def t_slices_ContainsFunc_Lint_int_tower_BuildF1 : Nat → (List Int) → Option (Bool)
  | 0, _ => none
  | N + 1, v => (fcL fcI).f v fun (s) => obind (t_slices_IndexFunc_Lint_int_tower_BuildF1 N s) fun z1 =>
  some (decide ((0 : Int) ≤ z1))
theorem q_m_slices_ContainsFunc_Lint_int_tower_BuildF1 : ∀ (N : Nat) (v : (List Int)), m_slices_ContainsFunc_Lint_int_tower_BuildF1 N v = t_slices_ContainsFunc_Lint_int_tower_BuildF1 N v
  | 0, _ => by kernel_rfl
  | N + 1, (s) => by
    rw [m_slices_ContainsFunc_Lint_int_tower_BuildF1_eq, t_slices_ContainsFunc_Lint_int_tower_BuildF1, (fcL fcI).ok]
    all_goals first | rfl | (simp only [q_m_slices_IndexFunc_Lint_int_tower_BuildF1, bitI_eq, dem_D]; done) | (simp only [q_m_slices_IndexFunc_Lint_int_tower_BuildF1, bitI_eq, dem_D]; rfl)
def t_slices_Clone_Lint_int : Nat → (List Int) → Option ((List Int))
  | 0, _ => none
  | N + 1, v => (fcL fcI).f v fun (s) => cond (isNilB s)
   (demD fun zb1 =>
    cond zb1
     (some [])
     (obind (appI (8 : Nat) [] s) fun z2 =>
      some z2))
   (obind (appI (8 : Nat) [] s) fun z3 =>
    some z3)
theorem q_m_slices_Clone_Lint_int : ∀ (N : Nat) (v : (List Int)), m_slices_Clone_Lint_int N v = t_slices_Clone_Lint_int N v
  | 0, _ => by kernel_rfl
  | N + 1, (s) => by
    rw [m_slices_Clone_Lint_int_eq, t_slices_Clone_Lint_int, (fcL fcI).ok]
    all_goals first | rfl | (simp only [bitI_eq, dem_D]; done) | (simp only [bitI_eq, dem_D]; rfl)
def tl_tower_Build_3 (N : Nat) : Nat → (List Int) × Int × Int × Int × Int × Int × Int × (List Int) × (List Int) × (List Int) × (List (List Int)) → Option ((List Int) × Int × Int × Int × (List Int) × (List Int) × (List Int) × (List (List Int)))
  | 0, _ => none
  | m + 1, v => (fcP (fcL fcI) (fcP fcI (fcP fcI (fcP fcI (fcP fcI (fcP fcI (fcP fcI (fcP (fcL fcI) (fcP (fcL fcI) (fcP (fcL fcI) (fcL (fcL fcI)))))))))))).f v fun (heights, n, i, v42, v43, v68, v69, behind, v903, v904, v905) => cond (decide (v69 < v68))
   (obind (nthI (List.range (8 : Nat)) v69) fun z1 =>
    obind (nthI behind v69) fun z2 =>
    obind (nthI behind v69) fun z3 =>
    (tl_tower_Build_3 N m (heights, (n, (i, (v42, (v43, (v68, ((IntKind.wrap .i64 (v69 + (1 : Int))), ((List.set behind (Int.toNat v69) i), (v903, (v904, v905))))))))))))
   (some (heights, (n, (v42, (v43, (behind, (v903, (v904, v905))))))))
theorem q_l_tower_Build_3 (N : Nat) : ∀ (m : Nat) (v : (List Int) × Int × Int × Int × Int × Int × Int × (List Int) × (List Int) × (List Int) × (List (List Int))), l_tower_Build_3 N m v = tl_tower_Build_3 N m v
  | 0, _ => by kernel_rfl
  | m + 1, (heights, n, i, v42, v43, v68, v69, behind, v903, v904, v905) => by
    rw [l_tower_Build_3_s, tl_tower_Build_3, (fcP (fcL fcI) (fcP fcI (fcP fcI (fcP fcI (fcP fcI (fcP fcI (fcP fcI (fcP (fcL fcI) (fcP (fcL fcI) (fcP (fcL fcI) (fcL (fcL fcI)))))))))))).ok]
    all_goals first | rfl | (simp only [bitI_eq, dem_D, q_l_tower_Build_3 N m]; done) | (simp only [bitI_eq, dem_D, q_l_tower_Build_3 N m]; rfl)
def tl_tower_Build_2 (N : Nat) : Nat → (List Int) × Int × Int × Int × Int × Int × (List Int) × (List Int) × (List Int) × (List (List Int)) → Option ((List Int) × Int × Int × Int × Int × (List Int) × (List Int) × (List Int) × (List (List Int)))
  | 0, _ => none
  | m + 1, v => (fcP (fcL fcI) (fcP fcI (fcP fcI (fcP fcI (fcP fcI (fcP fcI (fcP (fcL fcI) (fcP (fcL fcI) (fcP (fcL fcI) (fcL (fcL fcI))))))))))).f v fun (heights, n, k, i, v42, v43, behind, v903, v904, v905) => cond (decide (n ≤ k))
   (obind (nthI heights i) fun z1 =>
    obind (subI (List.replicate (8 : Nat) ()) (0 : Int) z1) fun z2 =>
    cond ((Nat.ble ((Int.toNat (0 : Int)) + (Int.toNat (z1 - (0 : Int)))) (List.length behind)) && true)
     (obind (t_slices_Clone_Lint_int N (List.take (Int.toNat (z1 - (0 : Int))) (List.drop (Int.toNat (0 : Int)) behind))) fun z3 =>
      obind (nthI v905 i) fun z4 =>
      obind (nthI v905 i) fun z5 =>
      some (heights, (n, (i, (v42, (v43, (behind, (v903, (v904, (List.set v905 (Int.toNat i) z3))))))))))
     (none))
   (some (heights, (n, (i, (v42, (v43, (behind, (v903, (v904, v905)))))))))
theorem q_l_tower_Build_2 (N : Nat) : ∀ (m : Nat) (v : (List Int) × Int × Int × Int × Int × Int × (List Int) × (List Int) × (List Int) × (List (List Int))), l_tower_Build_2 N m v = tl_tower_Build_2 N m v
  | 0, _ => by kernel_rfl
  | m + 1, (heights, n, k, i, v42, v43, behind, v903, v904, v905) => by
    rw [l_tower_Build_2_s, tl_tower_Build_2, (fcP (fcL fcI) (fcP fcI (fcP fcI (fcP fcI (fcP fcI (fcP fcI (fcP (fcL fcI) (fcP (fcL fcI) (fcP (fcL fcI) (fcL (fcL fcI))))))))))).ok]
    all_goals first | rfl | (simp only [q_m_slices_Clone_Lint_int, bitI_eq, dem_D]; done) | (simp only [q_m_slices_Clone_Lint_int, bitI_eq, dem_D]; rfl)
def tl_tower_Build_1 (N : Nat) : Nat → (List Int) × Int × Int × Int × (List Int) × (List Int) × (List Int) × (List (List Int)) → Option ((List Int) × (List Int) × (List (List Int)))
  | 0, _ => none
  | m + 1, v => (fcP (fcL fcI) (fcP fcI (fcP fcI (fcP fcI (fcP (fcL fcI) (fcP (fcL fcI) (fcP (fcL fcI) (fcL (fcL fcI))))))))).f v fun (heights, n, v42, v43, behind, v903, v904, v905) => cond (decide (v43 < v42))
   (obind (remI v43 n) fun z1 =>
    obind (tl_tower_Build_2 N N (heights, (n, (v43, ((IntKind.wrap .i64 ((IntKind.wrap .i64 (n - (1 : Int))) - z1)), (v42, (v43, (behind, (v903, (v904, v905)))))))))) fun z2 =>
    obind (nthI z2.1 z2.2.2.1) fun z3 =>
    obind (tl_tower_Build_3 N N (z2.1, (z2.2.1, (z2.2.2.1, (z2.2.2.2.1, (z2.2.2.2.2.1, (z3, ((0 : Int), (z2.2.2.2.2.2.1, (z2.2.2.2.2.2.2.1, (z2.2.2.2.2.2.2.2.1, z2.2.2.2.2.2.2.2.2))))))))))) fun z4 =>
    (tl_tower_Build_1 N m (z4.1, (z4.2.1, (z4.2.2.1, ((IntKind.wrap .i64 (z4.2.2.2.1 + (1 : Int))), (z4.2.2.2.2.1, (z4.2.2.2.2.2.1, (z4.2.2.2.2.2.2.1, z4.2.2.2.2.2.2.2)))))))))
   (some (v903, (v904, v905)))
theorem q_l_tower_Build_1 (N : Nat) : ∀ (m : Nat) (v : (List Int) × Int × Int × Int × (List Int) × (List Int) × (List Int) × (List (List Int))), l_tower_Build_1 N m v = tl_tower_Build_1 N m v
  | 0, _ => by kernel_rfl
  | m + 1, (heights, n, v42, v43, behind, v903, v904, v905) => by
    rw [l_tower_Build_1_s, tl_tower_Build_1, (fcP (fcL fcI) (fcP fcI (fcP fcI (fcP fcI (fcP (fcL fcI) (fcP (fcL fcI) (fcP (fcL fcI) (fcL (fcL fcI))))))))).ok]
    all_goals first | rfl | (simp only [q_l_tower_Build_2, q_l_tower_Build_3, bitI_eq, dem_D, q_l_tower_Build_1 N m]; done) | (simp only [q_l_tower_Build_2, q_l_tower_Build_3, bitI_eq, dem_D, q_l_tower_Build_1 N m]; rfl)
def t_tower_Build : Nat → (List Int) × (List Int) → Option (Int × (List Int) × (List Int) × (List (List Int)))
  | 0, _ => none
  | N + 1, v => (fcP (fcL fcI) (fcL fcI)).f v fun (tokens, heights) => cond (decide ((((List.length tokens) : Nat) : Int) = (0 : Int)))
   (some ((1 : Int), ([], ([], []))))
   (cond (!(decide ((((List.length heights) : Nat) : Int) = (((List.length tokens) : Nat) : Int))))
     (some ((1 : Int), ([], ([], []))))
     (obind (t_ring_Right N tokens) fun z1 =>
      cond (!z1)
       (some ((1 : Int), ([], ([], []))))
       (obind (t_slices_ContainsFunc_Lint_int_tower_BuildF1 N heights) fun z2 =>
        cond z2
         (some ((1 : Int), ([], ([], []))))
         (obind (t_slices_Clone_Lint_int N tokens) fun z3 =>
          obind (t_slices_Clone_Lint_int N heights) fun z4 =>
          obind (makI (((List.length tokens) : Nat) : Int) (24 : Nat)) fun z5 =>
          obind (tl_tower_Build_1 N N (heights, ((((List.length tokens) : Nat) : Int), ((IntKind.wrap .i64 ((2 : Int) * (((List.length tokens) : Nat) : Int))), ((0 : Int), ((List.replicate (8 : Nat) (0 : Int)), (z3, (z4, (List.replicate z5 []))))))))) fun z6 =>
          some ((0 : Int), (z6.1, (z6.2.1, z6.2.2)))))))
theorem q_m_tower_Build : ∀ (N : Nat) (v : (List Int) × (List Int)), m_tower_Build N v = t_tower_Build N v
  | 0, _ => by kernel_rfl
  | N + 1, (tokens, heights) => by
    rw [m_tower_Build_eq, t_tower_Build, (fcP (fcL fcI) (fcL fcI)).ok]
    all_goals first | rfl | (simp only [q_l_tower_Build_1, q_m_ring_Right, q_m_slices_Clone_Lint_int, q_m_slices_ContainsFunc_Lint_int_tower_BuildF1, bitI_eq, dem_D]; done) | (simp only [q_l_tower_Build_1, q_m_ring_Right, q_m_slices_Clone_Lint_int, q_m_slices_ContainsFunc_Lint_int_tower_BuildF1, bitI_eq, dem_D]; rfl)
def tl_slices_Equal_Lint_int_1 (N : Nat) : Nat → (List Int) × (List Int) × Int × Int → Option ((Unit) ⊕ (Bool))
  | 0, _ => none
  | m + 1, v => (fcP (fcL fcI) (fcP (fcL fcI) (fcP fcI fcI))).f v fun (s1, s2, v12, v13) => cond (decide (v13 < v12))
   (obind (nthI s1 v13) fun z1 =>
    obind (nthI s2 v13) fun z2 =>
    cond (!(decide (z1 = z2)))
     (some (.inr false))
     ((tl_slices_Equal_Lint_int_1 N m (s1, (s2, (v12, (IntKind.wrap .i64 (v13 + (1 : Int)))))))))
   (some (.inl ()))
theorem q_l_slices_Equal_Lint_int_1 (N : Nat) : ∀ (m : Nat) (v : (List Int) × (List Int) × Int × Int), l_slices_Equal_Lint_int_1 N m v = tl_slices_Equal_Lint_int_1 N m v
  | 0, _ => by kernel_rfl
  | m + 1, (s1, s2, v12, v13) => by
    rw [l_slices_Equal_Lint_int_1_s, tl_slices_Equal_Lint_int_1, (fcP (fcL fcI) (fcP (fcL fcI) (fcP fcI fcI))).ok]
    all_goals first | rfl | (simp only [bitI_eq, dem_D, q_l_slices_Equal_Lint_int_1 N m]; done) | (simp only [bitI_eq, dem_D, q_l_slices_Equal_Lint_int_1 N m]; rfl)
def t_slices_Equal_Lint_int : Nat → (List Int) × (List Int) → Option (Bool)
  | 0, _ => none
  | N + 1, v => (fcP (fcL fcI) (fcL fcI)).f v fun (s1, s2) => cond (!(decide ((((List.length s1) : Nat) : Int) = (((List.length s2) : Nat) : Int))))
   (some false)
   (obind (tl_slices_Equal_Lint_int_1 N N (s1, (s2, ((((List.length s1) : Nat) : Int), (0 : Int))))) fun z1 =>
    (match z1 with
    | .inl zy2 => some true
    | .inr zy3 => some zy3))
theorem q_m_slices_Equal_Lint_int : ∀ (N : Nat) (v : (List Int) × (List Int)), m_slices_Equal_Lint_int N v = t_slices_Equal_Lint_int N v
  | 0, _ => by kernel_rfl
  | N + 1, (s1, s2) => by
    rw [m_slices_Equal_Lint_int_eq, t_slices_Equal_Lint_int, (fcP (fcL fcI) (fcL fcI)).ok]
    all_goals first | rfl | (simp only [q_l_slices_Equal_Lint_int_1, bitI_eq, dem_D]; done) | (simp only [q_l_slices_Equal_Lint_int_1, bitI_eq, dem_D]; rfl)
def tl_slices_EqualFunc_LLint_LLint_Lint_Lint_slices_Equal_Lint_int_1 (N : Nat) : Nat → (List (List Int)) × (List (List Int)) × Int × Int → Option ((Unit) ⊕ (Bool))
  | 0, _ => none
  | m + 1, v => (fcP (fcL (fcL fcI)) (fcP (fcL (fcL fcI)) (fcP fcI fcI))).f v fun (s2, v15, v16, v17) => cond (decide (v17 < v16))
   (obind (nthI v15 v17) fun z1 =>
    obind (nthI s2 v17) fun z2 =>
    obind (t_slices_Equal_Lint_int N (z1, z2)) fun z3 =>
    cond (!z3)
     (some (.inr false))
     ((tl_slices_EqualFunc_LLint_LLint_Lint_Lint_slices_Equal_Lint_int_1 N m (s2, (v15, (v16, (IntKind.wrap .i64 (v17 + (1 : Int)))))))))
   (some (.inl ()))
theorem q_l_slices_EqualFunc_LLint_LLint_Lint_Lint_slices_Equal_Lint_int_1 (N : Nat) : ∀ (m : Nat) (v : (List (List Int)) × (List (List Int)) × Int × Int), l_slices_EqualFunc_LLint_LLint_Lint_Lint_slices_Equal_Lint_int_1 N m v = tl_slices_EqualFunc_LLint_LLint_Lint_Lint_slices_Equal_Lint_int_1 N m v
  | 0, _ => by kernel_rfl
  | m + 1, (s2, v15, v16, v17) => by
    rw [l_slices_EqualFunc_LLint_LLint_Lint_Lint_slices_Equal_Lint_int_1_s, tl_slices_EqualFunc_LLint_LLint_Lint_Lint_slices_Equal_Lint_int_1, (fcP (fcL (fcL fcI)) (fcP (fcL (fcL fcI)) (fcP fcI fcI))).ok]
    all_goals first | rfl | (simp only [q_m_slices_Equal_Lint_int, bitI_eq, dem_D, q_l_slices_EqualFunc_LLint_LLint_Lint_Lint_slices_Equal_Lint_int_1 N m]; done) | (simp only [q_m_slices_Equal_Lint_int, bitI_eq, dem_D, q_l_slices_EqualFunc_LLint_LLint_Lint_Lint_slices_Equal_Lint_int_1 N m]; rfl)
def t_slices_EqualFunc_LLint_LLint_Lint_Lint_slices_Equal_Lint_int : Nat → (List (List Int)) × (List (List Int)) → Option (Bool)
  | 0, _ => none
  | N + 1, v => (fcP (fcL (fcL fcI)) (fcL (fcL fcI))).f v fun (s1, s2) => cond (!(decide ((((List.length s1) : Nat) : Int) = (((List.length s2) : Nat) : Int))))
   (some false)
   (obind (tl_slices_EqualFunc_LLint_LLint_Lint_Lint_slices_Equal_Lint_int_1 N N (s2, (s1, ((((List.length s1) : Nat) : Int), (0 : Int))))) fun z1 =>
    (match z1 with
    | .inl zy2 => some true
    | .inr zy3 => some zy3))
theorem q_m_slices_EqualFunc_LLint_LLint_Lint_Lint_slices_Equal_Lint_int : ∀ (N : Nat) (v : (List (List Int)) × (List (List Int))), m_slices_EqualFunc_LLint_LLint_Lint_Lint_slices_Equal_Lint_int N v = t_slices_EqualFunc_LLint_LLint_Lint_Lint_slices_Equal_Lint_int N v
  | 0, _ => by kernel_rfl
  | N + 1, (s1, s2) => by
    rw [m_slices_EqualFunc_LLint_LLint_Lint_Lint_slices_Equal_Lint_int_eq, t_slices_EqualFunc_LLint_LLint_Lint_Lint_slices_Equal_Lint_int, (fcP (fcL (fcL fcI)) (fcL (fcL fcI))).ok]
    all_goals first | rfl | (simp only [q_l_slices_EqualFunc_LLint_LLint_Lint_Lint_slices_Equal_Lint_int_1, bitI_eq, dem_D]; done) | (simp only [q_l_slices_EqualFunc_LLint_LLint_Lint_Lint_slices_Equal_Lint_int_1, bitI_eq, dem_D]; rfl)
def t_tower_Same : Nat → (List Int) × (List Int) × (List (List Int)) × (List Int) × (List Int) × (List (List Int)) → Option (Bool)
  | 0, _ => none
  | N + 1, v => (fcP (fcL fcI) (fcP (fcL fcI) (fcP (fcL (fcL fcI)) (fcP (fcL fcI) (fcP (fcL fcI) (fcL (fcL fcI))))))).f v fun (a, a2, a3, b, b2, b3) => obind (t_slices_Equal_Lint_int N (a, b)) fun z1 =>
  cond z1
   (obind (t_slices_Equal_Lint_int N (a2, b2)) fun z2 =>
    cond z2
     (obind (t_slices_EqualFunc_LLint_LLint_Lint_Lint_slices_Equal_Lint_int N (a3, b3)) fun z3 =>
      some z3)
     (some false))
   (some false)
theorem q_m_tower_Same : ∀ (N : Nat) (v : (List Int) × (List Int) × (List (List Int)) × (List Int) × (List Int) × (List (List Int))), m_tower_Same N v = t_tower_Same N v
  | 0, _ => by kernel_rfl
  | N + 1, (a, a2, a3, b, b2, b3) => by
    rw [m_tower_Same_eq, t_tower_Same, (fcP (fcL fcI) (fcP (fcL fcI) (fcP (fcL (fcL fcI)) (fcP (fcL fcI) (fcP (fcL fcI) (fcL (fcL fcI))))))).ok]
    all_goals first | rfl | (simp only [q_m_slices_EqualFunc_LLint_LLint_Lint_Lint_slices_Equal_Lint_int, q_m_slices_Equal_Lint_int, bitI_eq, dem_D]; done) | (simp only [q_m_slices_EqualFunc_LLint_LLint_Lint_Lint_slices_Equal_Lint_int, q_m_slices_Equal_Lint_int, bitI_eq, dem_D]; rfl)
def t_tower_Right : Nat → (List Int) × (List Int) × (List (List Int)) → Option (Bool)
  | 0, _ => none
  | N + 1, v => (fcP (fcL fcI) (fcP (fcL fcI) (fcL (fcL fcI)))).f v fun (t, t2, t3) => obind (t_tower_Build N (t, t2)) fun z1 =>
  cond (decide (z1.1 = (0 : Int)))
   (obind (t_tower_Same N (z1.2.1, (z1.2.2.1, (z1.2.2.2, (t, (t2, t3)))))) fun z2 =>
    some z2)
   (some false)
theorem q_m_tower_Right : ∀ (N : Nat) (v : (List Int) × (List Int) × (List (List Int))), m_tower_Right N v = t_tower_Right N v
  | 0, _ => by kernel_rfl
  | N + 1, (t, t2, t3) => by
    rw [m_tower_Right_eq, t_tower_Right, (fcP (fcL fcI) (fcP (fcL fcI) (fcL (fcL fcI)))).ok]
    all_goals first | rfl | (simp only [q_m_tower_Build, q_m_tower_Same, bitI_eq, dem_D]; done) | (simp only [q_m_tower_Build, q_m_tower_Same, bitI_eq, dem_D]; rfl)
def t_slices_Clip_Lint_int : Nat → (List Int) → Option ((List Int))
  | 0, _ => none
  | N + 1, v => (fcL fcI).f v fun (s) => obind (subM s (0 : Int) (((List.length s) : Nat) : Int) (((List.length s) : Nat) : Int)) fun z1 =>
  cond (decide ((((List.length s) : Nat) : Int) = (((List.length s) : Nat) : Int)))
   (some z1)
   (none)
theorem q_m_slices_Clip_Lint_int : ∀ (N : Nat) (v : (List Int)), m_slices_Clip_Lint_int N v = t_slices_Clip_Lint_int N v
  | 0, _ => by kernel_rfl
  | N + 1, (s) => by
    rw [m_slices_Clip_Lint_int_eq, t_slices_Clip_Lint_int, (fcL fcI).ok]
    all_goals first | rfl | (simp only [bitI_eq, dem_D]; done) | (simp only [bitI_eq, dem_D]; rfl)
def t_pool_Take : Nat → (List Int) × (List Int) → Option (Int × (List Int) × (List Int) × Int × Int)
  | 0, _ => none
  | N + 1, v => (fcP (fcL fcI) (fcL fcI)).f v fun (p, p2) => obind (t_pool_Right N (p, p2)) fun z1 =>
  cond (!z1)
   (some ((1 : Int), (p, (p2, ((0 : Int), (0 : Int))))))
   (cond (decide ((IntKind.wrap .i64 ((((List.length p2) : Nat) : Int) - (1 : Int))) < (0 : Int)))
     (some ((2 : Int), (p, (p2, ((0 : Int), (0 : Int))))))
     (obind (nthI p2 (IntKind.wrap .i64 ((((List.length p2) : Nat) : Int) - (1 : Int)))) fun z2 =>
      obind (nthI p z2) fun z3 =>
      cond (decide (z3 = (1073741824 : Int)))
       (some ((2 : Int), (p, (p2, ((0 : Int), (0 : Int))))))
       (obind (nthI p2 (IntKind.wrap .i64 ((((List.length p2) : Nat) : Int) - (1 : Int)))) fun z4 =>
        obind (subI p2 (0 : Int) (IntKind.wrap .i64 ((((List.length p2) : Nat) : Int) - (1 : Int)))) fun z5 =>
        obind (t_slices_Clip_Lint_int N z5) fun z6 =>
        obind (t_slices_Clone_Lint_int N p) fun z7 =>
        obind (nthI z7 z4) fun z8 =>
        obind (nthI z7 z4) fun z9 =>
        obind (nthI z7 z4) fun z10 =>
        obind (nthI z7 z4) fun z11 =>
        obind (nthI (List.set z7 (Int.toNat z4) (IntKind.wrap .i64 (z9 + (1 : Int)))) z4) fun z12 =>
        obind (nthI (List.set z7 (Int.toNat z4) (IntKind.wrap .i64 (z9 + (1 : Int)))) z4) fun z13 =>
        some ((0 : Int), ((List.set z7 (Int.toNat z4) (IntKind.wrap .i64 (z9 + (1 : Int)))), (z6, (z4, z13)))))))
theorem q_m_pool_Take : ∀ (N : Nat) (v : (List Int) × (List Int)), m_pool_Take N v = t_pool_Take N v
  | 0, _ => by kernel_rfl
  | N + 1, (p, p2) => by
    rw [m_pool_Take_eq, t_pool_Take, (fcP (fcL fcI) (fcL fcI)).ok]
    all_goals first | rfl | (simp only [q_m_pool_Right, q_m_slices_Clip_Lint_int, q_m_slices_Clone_Lint_int, bitI_eq, dem_D]; done) | (simp only [q_m_pool_Right, q_m_slices_Clip_Lint_int, q_m_slices_Clone_Lint_int, bitI_eq, dem_D]; rfl)
def tl_store_taken_1 (N : Nat) : Nat → Int × Int × (List Int) × (List Int) × (List (Int × Int)) → Option (((List Int) × (List Int) × (List (Int × Int))) ⊕ (Int × (List Int) × (List Int)))
  | 0, _ => none
  | m + 1, v => (fcP fcI (fcP fcI (fcP (fcL fcI) (fcP (fcL fcI) (fcL (fcP fcI fcI)))))).f v fun (v8, v9, p, p2, l) => cond (decide (v9 < v8))
   (obind (t_pool_Take N (p, p2)) fun z1 =>
    cond (!(decide (z1.1 = (0 : Int))))
     (some (.inr (z1.1, (z1.2.1, z1.2.2.1))))
     (obind (appI (16 : Nat) l [(z1.2.2.2.1, z1.2.2.2.2)]) fun z2 =>
      (tl_store_taken_1 N m (v8, ((IntKind.wrap .i64 (v9 + (1 : Int))), (z1.2.1, (z1.2.2.1, z2)))))))
   (some (.inl (p, (p2, l))))
theorem q_l_store_taken_1 (N : Nat) : ∀ (m : Nat) (v : Int × Int × (List Int) × (List Int) × (List (Int × Int))), l_store_taken_1 N m v = tl_store_taken_1 N m v
  | 0, _ => by kernel_rfl
  | m + 1, (v8, v9, p, p2, l) => by
    rw [l_store_taken_1_s, tl_store_taken_1, (fcP fcI (fcP fcI (fcP (fcL fcI) (fcP (fcL fcI) (fcL (fcP fcI fcI)))))).ok]
    all_goals first | rfl | (simp only [q_m_pool_Take, bitI_eq, dem_D, q_l_store_taken_1 N m]; done) | (simp only [q_m_pool_Take, bitI_eq, dem_D, q_l_store_taken_1 N m]; rfl)
def t_store_taken : Nat → (List Int) × (List Int) × Int → Option (Int × (List Int) × (List Int) × (List (Int × Int)))
  | 0, _ => none
  | N + 1, v => (fcP (fcL fcI) (fcP (fcL fcI) fcI)).f v fun (p, p2, n) => obind (tl_store_taken_1 N N (n, ((0 : Int), (p, (p2, []))))) fun z1 =>
  (match z1 with
  | .inl zy2 => some ((0 : Int), (zy2.1, (zy2.2.1, zy2.2.2)))
  | .inr zy3 => some (zy3.1, (zy3.2.1, (zy3.2.2, []))))
theorem q_m_store_taken : ∀ (N : Nat) (v : (List Int) × (List Int) × Int), m_store_taken N v = t_store_taken N v
  | 0, _ => by kernel_rfl
  | N + 1, (p, p2, n) => by
    rw [m_store_taken_eq, t_store_taken, (fcP (fcL fcI) (fcP (fcL fcI) fcI)).ok]
    all_goals first | rfl | (simp only [q_l_store_taken_1, bitI_eq, dem_D]; done) | (simp only [q_l_store_taken_1, bitI_eq, dem_D]; rfl)
def t_slices_Clone_Lapi_Node_api_Node : Nat → (List (Int × (Int × (List (Int × Int))))) → Option ((List (Int × (Int × (List (Int × Int))))))
  | 0, _ => none
  | N + 1, v => (fcL (fcP fcI (fcP fcI (fcL (fcP fcI fcI))))).f v fun (s) => cond (isNilB s)
   (demD fun zb1 =>
    cond zb1
     (some [])
     (obind (appI (40 : Nat) [] s) fun z2 =>
      some z2))
   (obind (appI (40 : Nat) [] s) fun z3 =>
    some z3)
theorem q_m_slices_Clone_Lapi_Node_api_Node : ∀ (N : Nat) (v : (List (Int × (Int × (List (Int × Int)))))), m_slices_Clone_Lapi_Node_api_Node N v = t_slices_Clone_Lapi_Node_api_Node N v
  | 0, _ => by kernel_rfl
  | N + 1, (s) => by
    rw [m_slices_Clone_Lapi_Node_api_Node_eq, t_slices_Clone_Lapi_Node_api_Node, (fcL (fcP fcI (fcP fcI (fcL (fcP fcI fcI))))).ok]
    all_goals first | rfl | (simp only [bitI_eq, dem_D]; done) | (simp only [bitI_eq, dem_D]; rfl)
def tl_store_Put_2 (N : Nat) : Nat → Int × Int × (List Int) × Int × Int × (List Int) × (List Int) × (List (List Int)) × Int × Int × (List Int) × (List Int) × (List (Int × Int)) × (List (Int × (Int × (List (Int × Int))))) × Int × Int × Int × Int × (List (Int × Int)) → Option (Int × Int × (List Int) × (List Int) × (List (List Int)) × Int × Int × (List Int) × (List Int) × (List (Int × Int)) × (List (Int × (Int × (List (Int × Int))))) × Int × Int × Int × Int × (List (Int × Int)))
  | 0, _ => none
  | m + 1, v => (fcP fcI (fcP fcI (fcP (fcL fcI) (fcP fcI (fcP fcI (fcP (fcL fcI) (fcP (fcL fcI) (fcP (fcL (fcL fcI)) (fcP fcI (fcP fcI (fcP (fcL fcI) (fcP (fcL fcI) (fcP (fcL (fcP fcI fcI)) (fcP (fcL (fcP fcI (fcP fcI (fcL (fcP fcI fcI))))) (fcP fcI (fcP fcI (fcP fcI (fcP fcI (fcL (fcP fcI fcI)))))))))))))))))))).f v fun (v45, v46, v66, v67, v68, t, t2, t3, v5, v52, p, p2, l, nodes, h, h2, x, x2, v908) => cond (decide (v68 < v67))
   (obind (nthI v66 v68) fun z1 =>
    obind (nthI l z1) fun z2 =>
    obind (nthI l z1) fun z3 =>
    obind (appI (16 : Nat) v908 [(z3.1, z3.2)]) fun z4 =>
    (tl_store_Put_2 N m (v45, (v46, (v66, (v67, ((IntKind.wrap .i64 (v68 + (1 : Int))), (t, (t2, (t3, (v5, (v52, (p, (p2, (l, (nodes, (h, (h2, (x, (x2, z4))))))))))))))))))))
   (some (v45, (v46, (t, (t2, (t3, (v5, (v52, (p, (p2, (l, (nodes, (h, (h2, (x, (x2, v908))))))))))))))))
theorem q_l_store_Put_2 (N : Nat) : ∀ (m : Nat) (v : Int × Int × (List Int) × Int × Int × (List Int) × (List Int) × (List (List Int)) × Int × Int × (List Int) × (List Int) × (List (Int × Int)) × (List (Int × (Int × (List (Int × Int))))) × Int × Int × Int × Int × (List (Int × Int))), l_store_Put_2 N m v = tl_store_Put_2 N m v
  | 0, _ => by kernel_rfl
  | m + 1, (v45, v46, v66, v67, v68, t, t2, t3, v5, v52, p, p2, l, nodes, h, h2, x, x2, v908) => by
    rw [l_store_Put_2_s, tl_store_Put_2, (fcP fcI (fcP fcI (fcP (fcL fcI) (fcP fcI (fcP fcI (fcP (fcL fcI) (fcP (fcL fcI) (fcP (fcL (fcL fcI)) (fcP fcI (fcP fcI (fcP (fcL fcI) (fcP (fcL fcI) (fcP (fcL (fcP fcI fcI)) (fcP (fcL (fcP fcI (fcP fcI (fcL (fcP fcI fcI))))) (fcP fcI (fcP fcI (fcP fcI (fcP fcI (fcL (fcP fcI fcI)))))))))))))))))))).ok]
    all_goals first | rfl | (simp only [bitI_eq, dem_D, q_l_store_Put_2 N m]; done) | (simp only [bitI_eq, dem_D, q_l_store_Put_2 N m]; rfl)
def tl_store_Put_1 (N : Nat) : Nat → Int × Int × (List Int) × (List Int) × (List (List Int)) × Int × Int × (List Int) × (List Int) × (List (Int × Int)) × (List (Int × (Int × (List (Int × Int))))) → Option (Int × Int × (List Int) × (List Int) × (List (Int × Int)) × (List (Int × (Int × (List (Int × Int))))))
  | 0, _ => none
  | m + 1, v => (fcP fcI (fcP fcI (fcP (fcL fcI) (fcP (fcL fcI) (fcP (fcL (fcL fcI)) (fcP fcI (fcP fcI (fcP (fcL fcI) (fcP (fcL fcI) (fcP (fcL (fcP fcI fcI)) (fcL (fcP fcI (fcP fcI (fcL (fcP fcI fcI))))))))))))))).f v fun (v45, v46, t, t2, t3, v5, v52, p, p2, l, nodes) => cond (decide (v46 < v45))
   (obind (nthI l v46) fun z1 =>
    obind (nthI l v46) fun z2 =>
    obind (nthI t v46) fun z3 =>
    obind (nthI t2 v46) fun z4 =>
    obind (nthI t3 v46) fun z5 =>
    obind (tl_store_Put_2 N N (v45, (v46, (z5, ((((List.length z5) : Nat) : Int), ((0 : Int), (t, (t2, (t3, (v5, (v52, (p, (p2, (l, (nodes, (z2.1, (z2.2, (z3, (z4, []))))))))))))))))))) fun z6 =>
    obind (nthI z6.2.2.2.2.2.2.2.2.2.2.1 z6.2.2.2.2.2.2.2.2.2.2.2.1) fun z7 =>
    obind (nthI z6.2.2.2.2.2.2.2.2.2.2.1 z6.2.2.2.2.2.2.2.2.2.2.2.1) fun z8 =>
    (tl_store_Put_1 N m (z6.1, ((IntKind.wrap .i64 (z6.2.1 + (1 : Int))), (z6.2.2.1, (z6.2.2.2.1, (z6.2.2.2.2.1, (z6.2.2.2.2.2.1, (z6.2.2.2.2.2.2.1, (z6.2.2.2.2.2.2.2.1, (z6.2.2.2.2.2.2.2.2.1, (z6.2.2.2.2.2.2.2.2.2.1, (List.set z6.2.2.2.2.2.2.2.2.2.2.1 (Int.toNat z6.2.2.2.2.2.2.2.2.2.2.2.1) (z6.2.2.2.2.2.2.2.2.2.2.2.2.2.1, (z6.2.2.2.2.2.2.2.2.2.2.2.2.2.2.1, z6.2.2.2.2.2.2.2.2.2.2.2.2.2.2.2)))))))))))))))
   (some (v5, (v52, (p, (p2, (l, nodes))))))
theorem q_l_store_Put_1 (N : Nat) : ∀ (m : Nat) (v : Int × Int × (List Int) × (List Int) × (List (List Int)) × Int × Int × (List Int) × (List Int) × (List (Int × Int)) × (List (Int × (Int × (List (Int × Int)))))), l_store_Put_1 N m v = tl_store_Put_1 N m v
  | 0, _ => by kernel_rfl
  | m + 1, (v45, v46, t, t2, t3, v5, v52, p, p2, l, nodes) => by
    rw [l_store_Put_1_s, tl_store_Put_1, (fcP fcI (fcP fcI (fcP (fcL fcI) (fcP (fcL fcI) (fcP (fcL (fcL fcI)) (fcP fcI (fcP fcI (fcP (fcL fcI) (fcP (fcL fcI) (fcP (fcL (fcP fcI fcI)) (fcL (fcP fcI (fcP fcI (fcL (fcP fcI fcI))))))))))))))).ok]
    all_goals first | rfl | (simp only [q_l_store_Put_2, bitI_eq, dem_D, q_l_store_Put_1 N m]; done) | (simp only [q_l_store_Put_2, bitI_eq, dem_D, q_l_store_Put_1 N m]; rfl)
def t_store_Put : Nat → (List Int) × (List Int) × (List (Int × (Int × (List (Int × Int))))) × (List Int) × (List Int) × (List (List Int)) → Option (Int × (List Int) × (List Int) × (List (Int × (Int × (List (Int × Int))))) × Int × Int)
  | 0, _ => none
  | N + 1, v => (fcP (fcL fcI) (fcP (fcL fcI) (fcP (fcL (fcP fcI (fcP fcI (fcL (fcP fcI fcI))))) (fcP (fcL fcI) (fcP (fcL fcI) (fcL (fcL fcI))))))).f v fun (s, s2, s3, t, t2, t3) => obind (t_store_Right N (s, (s2, s3))) fun z1 =>
  cond (!z1)
   (some ((1 : Int), (s, (s2, (s3, ((0 : Int), (0 : Int)))))))
   (obind (t_tower_Right N (t, (t2, t3))) fun z2 =>
    cond (!z2)
     (some ((1 : Int), (s, (s2, (s3, ((0 : Int), (0 : Int)))))))
     (obind (t_store_taken N (s, (s2, (((List.length t) : Nat) : Int)))) fun z3 =>
      cond (!(decide (z3.1 = (0 : Int))))
       (some (z3.1, (s, (s2, (s3, ((0 : Int), (0 : Int)))))))
       (obind (t_slices_Clone_Lapi_Node_api_Node N s3) fun z4 =>
        obind (tl_store_Put_1 N N ((((List.length z3.2.2.2) : Nat) : Int), ((0 : Int), (t, (t2, (t3, ((0 : Int), ((0 : Int), (z3.2.1, (z3.2.2.1, (z3.2.2.2, z4))))))))))) fun z5 =>
        obind (nthI z5.2.2.2.2.1 (0 : Int)) fun z6 =>
        obind (nthI z5.2.2.2.2.1 (0 : Int)) fun z7 =>
        some ((0 : Int), (z5.2.2.1, (z5.2.2.2.1, (z5.2.2.2.2.2, (z7.1, z7.2))))))))
theorem q_m_store_Put : ∀ (N : Nat) (v : (List Int) × (List Int) × (List (Int × (Int × (List (Int × Int))))) × (List Int) × (List Int) × (List (List Int))), m_store_Put N v = t_store_Put N v
  | 0, _ => by kernel_rfl
  | N + 1, (s, s2, s3, t, t2, t3) => by
    rw [m_store_Put_eq, t_store_Put, (fcP (fcL fcI) (fcP (fcL fcI) (fcP (fcL (fcP fcI (fcP fcI (fcL (fcP fcI fcI))))) (fcP (fcL fcI) (fcP (fcL fcI) (fcL (fcL fcI))))))).ok]
    all_goals first | rfl | (simp only [q_l_store_Put_1, q_m_slices_Clone_Lapi_Node_api_Node, q_m_store_Right, q_m_store_taken, q_m_tower_Right, bitI_eq, dem_D]; done) | (simp only [q_l_store_Put_1, q_m_slices_Clone_Lapi_Node_api_Node, q_m_store_Right, q_m_store_taken, q_m_tower_Right, bitI_eq, dem_D]; rfl)
def tl__store_trip_round_phhhnm_1 (N : Nat) : Nat → (List Int) × (List Int) × (List (Int × (Int × (List (Int × Int))))) × Int × Int × (List ((Int × Int) × Int)) × (List (Int × Int)) → Option (Int × (List Int) × (List Int) × (List (Int × (Int × (List (Int × Int))))) × (List ((Int × Int) × Int)) × (List (Int × Int)))
  | 0, _ => none
  | m + 1, v => (fcP (fcL fcI) (fcP (fcL fcI) (fcP (fcL (fcP fcI (fcP fcI (fcL (fcP fcI fcI))))) (fcP fcI (fcP fcI (fcP (fcL (fcP (fcP fcI fcI) fcI)) (fcL (fcP fcI fcI)))))))).f v fun (r, r2, r3, h, h2, v4294967297, v901) => cond (Option.isSome (mget (.pr (.i .i64) (.i .i64)) v4294967297 (h, h2)))
   (some ((Option.getD (mget (.pr (.i .i64) (.i .i64)) v4294967297 (h, h2)) (0 : Int)), (r, (r2, (r3, (v4294967297, v901))))))
   (obind (appI (16 : Nat) v901 [(h, h2)]) fun z1 =>
    obind (nthI r3 h) fun z2 =>
    obind (nthI z2.2.2 (0 : Int)) fun z3 =>
    (tl__store_trip_round_phhhnm_1 N m (r, (r2, (r3, (z3.1, (z3.2, ((mput (.pr (.i .i64) (.i .i64)) v4294967297 (h, h2) (((List.length v901) : Nat) : Int)), z1))))))))
theorem q_l__store_trip_round_phhhnm_1 (N : Nat) : ∀ (m : Nat) (v : (List Int) × (List Int) × (List (Int × (Int × (List (Int × Int))))) × Int × Int × (List ((Int × Int) × Int)) × (List (Int × Int))), l__store_trip_round_phhhnm_1 N m v = tl__store_trip_round_phhhnm_1 N m v
  | 0, _ => by kernel_rfl
  | m + 1, (r, r2, r3, h, h2, v4294967297, v901) => by
    rw [l__store_trip_round_phhhnm_1_s, tl__store_trip_round_phhhnm_1, (fcP (fcL fcI) (fcP (fcL fcI) (fcP (fcL (fcP fcI (fcP fcI (fcL (fcP fcI fcI))))) (fcP fcI (fcP fcI (fcP (fcL (fcP (fcP fcI fcI) fcI)) (fcL (fcP fcI fcI)))))))).ok]
    all_goals first | rfl | (simp only [bitI_eq, dem_D, q_l__store_trip_round_phhhnm_1 N m]; done) | (simp only [bitI_eq, dem_D, q_l__store_trip_round_phhhnm_1 N m]; rfl)
def t__store_trip_round_phhhnm : Nat → Int × Int × (List Int) × (List Int) × (List (Int × (Int × (List (Int × Int))))) × (List ((Int × Int) × Int)) → Option (Int × (List Int) × (List Int) × (List (Int × (Int × (List (Int × Int))))) × (List ((Int × Int) × Int)) × (List (Int × Int)))
  | 0, _ => none
  | N + 1, v => (fcP fcI (fcP fcI (fcP (fcL fcI) (fcP (fcL fcI) (fcP (fcL (fcP fcI (fcP fcI (fcL (fcP fcI fcI))))) (fcL (fcP (fcP fcI fcI) fcI))))))).f v fun (h, h2, r, r2, r3, h3) => obind (tl__store_trip_round_phhhnm_1 N N (r, (r2, (r3, (h, (h2, (h3, []))))))) fun z1 =>
  some (z1.1, (z1.2.1, (z1.2.2.1, (z1.2.2.2.1, (z1.2.2.2.2.1, z1.2.2.2.2.2)))))
theorem q_m__store_trip_round_phhhnm : ∀ (N : Nat) (v : Int × Int × (List Int) × (List Int) × (List (Int × (Int × (List (Int × Int))))) × (List ((Int × Int) × Int))), m__store_trip_round_phhhnm N v = t__store_trip_round_phhhnm N v
  | 0, _ => by kernel_rfl
  | N + 1, (h, h2, r, r2, r3, h3) => by
    rw [m__store_trip_round_phhhnm_eq, t__store_trip_round_phhhnm, (fcP fcI (fcP fcI (fcP (fcL fcI) (fcP (fcL fcI) (fcP (fcL (fcP fcI (fcP fcI (fcL (fcP fcI fcI))))) (fcL (fcP (fcP fcI fcI) fcI))))))).ok]
    all_goals first | rfl | (simp only [q_l__store_trip_round_phhhnm_1, bitI_eq, dem_D]; done) | (simp only [q_l__store_trip_round_phhhnm_1, bitI_eq, dem_D]; rfl)
def tl__store_trip_tower_phhhom_2 (N : Nat) : Nat → Int × Int × (List (Int × Int)) × Int × Int × (List Int) × (List Int) × (List (Int × (Int × (List (Int × Int))))) × Int × Int × (List (Int × Int)) × (List Int) × (List (Int × Int)) × (List ((Int × Int) × Int)) × (List Int) × (List Int) × (List (List Int)) → Option ((Int × Int × (List Int) × (List Int) × (List (Int × (Int × (List (Int × Int))))) × Int × Int × (List (Int × Int)) × (List Int) × (List (Int × Int)) × (List ((Int × Int) × Int)) × (List Int) × (List Int) × (List (List Int))) ⊕ (Bool × (List Int) × (List Int) × (List (Int × (Int × (List (Int × Int))))) × (List (Int × Int)) × (List ((Int × Int) × Int))))
  | 0, _ => none
  | m + 1, v => (fcP fcI (fcP fcI (fcP (fcL (fcP fcI fcI)) (fcP fcI (fcP fcI (fcP (fcL fcI) (fcP (fcL fcI) (fcP (fcL (fcP fcI (fcP fcI (fcL (fcP fcI fcI))))) (fcP fcI (fcP fcI (fcP (fcL (fcP fcI fcI)) (fcP (fcL fcI) (fcP (fcL (fcP fcI fcI)) (fcP (fcL (fcP (fcP fcI fcI) fcI)) (fcP (fcL fcI) (fcP (fcL fcI) (fcL (fcL fcI)))))))))))))))))).f v fun (v16, v17, v31, v32, v33, r, r2, r3, x, x2, x3, v7, v15, v4294967298, v903, v904, v905) => cond (decide (v33 < v32))
   (obind (nthI v31 v33) fun z1 =>
    cond (!(Option.isSome (mget (.pr (.i .i64) (.i .i64)) v4294967298 (z1.1, z1.2))))
     (some (.inr (false, (r, (r2, (r3, (v15, v4294967298)))))))
     (obind (appI (8 : Nat) v7 [(Option.getD (mget (.pr (.i .i64) (.i .i64)) v4294967298 (z1.1, z1.2)) (0 : Int))]) fun z2 =>
      (tl__store_trip_tower_phhhom_2 N m (v16, (v17, (v31, (v32, ((IntKind.wrap .i64 (v33 + (1 : Int))), (r, (r2, (r3, (x, (x2, (x3, (z2, (v15, (v4294967298, (v903, (v904, v905)))))))))))))))))))
   (some (.inl (v16, (v17, (r, (r2, (r3, (x, (x2, (x3, (v7, (v15, (v4294967298, (v903, (v904, v905)))))))))))))))
theorem q_l__store_trip_tower_phhhom_2 (N : Nat) : ∀ (m : Nat) (v : Int × Int × (List (Int × Int)) × Int × Int × (List Int) × (List Int) × (List (Int × (Int × (List (Int × Int))))) × Int × Int × (List (Int × Int)) × (List Int) × (List (Int × Int)) × (List ((Int × Int) × Int)) × (List Int) × (List Int) × (List (List Int))), l__store_trip_tower_phhhom_2 N m v = tl__store_trip_tower_phhhom_2 N m v
  | 0, _ => by kernel_rfl
  | m + 1, (v16, v17, v31, v32, v33, r, r2, r3, x, x2, x3, v7, v15, v4294967298, v903, v904, v905) => by
    rw [l__store_trip_tower_phhhom_2_s, tl__store_trip_tower_phhhom_2, (fcP fcI (fcP fcI (fcP (fcL (fcP fcI fcI)) (fcP fcI (fcP fcI (fcP (fcL fcI) (fcP (fcL fcI) (fcP (fcL (fcP fcI (fcP fcI (fcL (fcP fcI fcI))))) (fcP fcI (fcP fcI (fcP (fcL (fcP fcI fcI)) (fcP (fcL fcI) (fcP (fcL (fcP fcI fcI)) (fcP (fcL (fcP (fcP fcI fcI) fcI)) (fcP (fcL fcI) (fcP (fcL fcI) (fcL (fcL fcI)))))))))))))))))).ok]
    all_goals first | rfl | (simp only [bitI_eq, dem_D, q_l__store_trip_tower_phhhom_2 N m]; done) | (simp only [bitI_eq, dem_D, q_l__store_trip_tower_phhhom_2 N m]; rfl)
def tl__store_trip_tower_phhhom_1 (N : Nat) : Nat → Int × Int × (List Int) × (List Int) × (List (Int × (Int × (List (Int × Int))))) × (List (Int × Int)) × (List ((Int × Int) × Int)) × (List Int) × (List Int) × (List (List Int)) → Option (((List Int) × (List Int) × (List (Int × (Int × (List (Int × Int))))) × (List (Int × Int)) × (List ((Int × Int) × Int)) × (List Int) × (List Int) × (List (List Int))) ⊕ (Bool × (List Int) × (List Int) × (List (Int × (Int × (List (Int × Int))))) × (List (Int × Int)) × (List ((Int × Int) × Int))))
  | 0, _ => none
  | m + 1, v => (fcP fcI (fcP fcI (fcP (fcL fcI) (fcP (fcL fcI) (fcP (fcL (fcP fcI (fcP fcI (fcL (fcP fcI fcI))))) (fcP (fcL (fcP fcI fcI)) (fcP (fcL (fcP (fcP fcI fcI) fcI)) (fcP (fcL fcI) (fcP (fcL fcI) (fcL (fcL fcI))))))))))).f v fun (v16, v17, r, r2, r3, v15, v4294967298, v901, v902, v903) => cond (decide (v17 < v16))
   (obind (nthI v15 v17) fun z1 =>
    obind (nthI v15 v17) fun z2 =>
    obind (nthI r3 z2.1) fun z3 =>
    obind (tl__store_trip_tower_phhhom_2 N N (v16, (v17, (z3.2.2, ((((List.length z3.2.2) : Nat) : Int), ((0 : Int), (r, (r2, (r3, (z3.1, (z3.2.1, (z3.2.2, ([], (v15, (v4294967298, (v901, (v902, v903))))))))))))))))) fun z4 =>
    (match z4 with
    | .inl zy5 => obind (appI (8 : Nat) zy5.2.2.2.2.2.2.2.2.2.2.2.1 [zy5.2.2.2.2.2.1]) fun z6 =>
      obind (appI (8 : Nat) zy5.2.2.2.2.2.2.2.2.2.2.2.2.1 [zy5.2.2.2.2.2.2.1]) fun z7 =>
      obind (appI (24 : Nat) zy5.2.2.2.2.2.2.2.2.2.2.2.2.2 [zy5.2.2.2.2.2.2.2.2.1]) fun z8 =>
      (tl__store_trip_tower_phhhom_1 N m (zy5.1, ((IntKind.wrap .i64 (zy5.2.1 + (1 : Int))), (zy5.2.2.1, (zy5.2.2.2.1, (zy5.2.2.2.2.1, (zy5.2.2.2.2.2.2.2.2.2.1, (zy5.2.2.2.2.2.2.2.2.2.2.1, (z6, (z7, z8))))))))))
    | .inr zy9 => some (.inr (zy9.1, (zy9.2.1, (zy9.2.2.1, (zy9.2.2.2.1, (zy9.2.2.2.2.1, zy9.2.2.2.2.2))))))))
   (some (.inl (r, (r2, (r3, (v15, (v4294967298, (v901, (v902, v903)))))))))
theorem q_l__store_trip_tower_phhhom_1 (N : Nat) : ∀ (m : Nat) (v : Int × Int × (List Int) × (List Int) × (List (Int × (Int × (List (Int × Int))))) × (List (Int × Int)) × (List ((Int × Int) × Int)) × (List Int) × (List Int) × (List (List Int))), l__store_trip_tower_phhhom_1 N m v = tl__store_trip_tower_phhhom_1 N m v
  | 0, _ => by kernel_rfl
  | m + 1, (v16, v17, r, r2, r3, v15, v4294967298, v901, v902, v903) => by
    rw [l__store_trip_tower_phhhom_1_s, tl__store_trip_tower_phhhom_1, (fcP fcI (fcP fcI (fcP (fcL fcI) (fcP (fcL fcI) (fcP (fcL (fcP fcI (fcP fcI (fcL (fcP fcI fcI))))) (fcP (fcL (fcP fcI fcI)) (fcP (fcL (fcP (fcP fcI fcI) fcI)) (fcP (fcL fcI) (fcP (fcL fcI) (fcL (fcL fcI))))))))))).ok]
    all_goals first | rfl | (simp only [q_l__store_trip_tower_phhhom_2, bitI_eq, dem_D, q_l__store_trip_tower_phhhom_1 N m]; done) | (simp only [q_l__store_trip_tower_phhhom_2, bitI_eq, dem_D, q_l__store_trip_tower_phhhom_1 N m]; rfl)
def t__store_trip_tower_phhhom : Nat → (List Int) × (List Int) × (List (Int × (Int × (List (Int × Int))))) × (List (Int × Int)) × (List ((Int × Int) × Int)) → Option (Bool × (List Int) × (List Int) × (List (List Int)) × (List (Int × Int)) × (List ((Int × Int) × Int)) × (List Int) × (List Int) × (List (Int × (Int × (List (Int × Int))))))
  | 0, _ => none
  | N + 1, v => (fcP (fcL fcI) (fcP (fcL fcI) (fcP (fcL (fcP fcI (fcP fcI (fcL (fcP fcI fcI))))) (fcP (fcL (fcP fcI fcI)) (fcL (fcP (fcP fcI fcI) fcI)))))).f v fun (r, r2, r3, h, h2) => obind (tl__store_trip_tower_phhhom_1 N N ((((List.length h) : Nat) : Int), ((0 : Int), (r, (r2, (r3, (h, (h2, ([], ([], [])))))))))) fun z1 =>
  (match z1 with
  | .inl zy2 => obind (t_tower_Right N (zy2.2.2.2.2.2.1, (zy2.2.2.2.2.2.2.1, zy2.2.2.2.2.2.2.2))) fun z3 =>
    cond (!z3)
     (some (false, ([], ([], ([], (zy2.2.2.2.1, (zy2.2.2.2.2.1, (zy2.1, (zy2.2.1, zy2.2.2.1)))))))))
     (some (true, (zy2.2.2.2.2.2.1, (zy2.2.2.2.2.2.2.1, (zy2.2.2.2.2.2.2.2, (zy2.2.2.2.1, (zy2.2.2.2.2.1, (zy2.1, (zy2.2.1, zy2.2.2.1)))))))))
  | .inr zy4 => some (zy4.1, ([], ([], ([], (zy4.2.2.2.2.1, (zy4.2.2.2.2.2, (zy4.2.1, (zy4.2.2.1, zy4.2.2.2.1)))))))))
theorem q_m__store_trip_tower_phhhom : ∀ (N : Nat) (v : (List Int) × (List Int) × (List (Int × (Int × (List (Int × Int))))) × (List (Int × Int)) × (List ((Int × Int) × Int))), m__store_trip_tower_phhhom N v = t__store_trip_tower_phhhom N v
  | 0, _ => by kernel_rfl
  | N + 1, (r, r2, r3, h, h2) => by
    rw [m__store_trip_tower_phhhom_eq, t__store_trip_tower_phhhom, (fcP (fcL fcI) (fcP (fcL fcI) (fcP (fcL (fcP fcI (fcP fcI (fcL (fcP fcI fcI))))) (fcP (fcL (fcP fcI fcI)) (fcL (fcP (fcP fcI fcI) fcI)))))).ok]
    all_goals first | rfl | (simp only [q_l__store_trip_tower_phhhom_1, q_m_tower_Right, bitI_eq, dem_D]; done) | (simp only [q_l__store_trip_tower_phhhom_1, q_m_tower_Right, bitI_eq, dem_D]; rfl)
def t_store_Read : Nat → (List Int) × (List Int) × (List (Int × (Int × (List (Int × Int))))) × Int × Int → Option (Int × (List Int) × (List Int) × (List (List Int)) × (List (Int × Int)))
  | 0, _ => none
  | N + 1, v => (fcP (fcL fcI) (fcP (fcL fcI) (fcP (fcL (fcP fcI (fcP fcI (fcL (fcP fcI fcI))))) (fcP fcI fcI)))).f v fun (s, s2, s3, h, h2) => obind (t_store_Right N (s, (s2, s3))) fun z1 =>
  cond (!z1)
   (some ((1 : Int), ([], ([], ([], [])))))
   (obind (t_pool_Good N (s, (s2, (h, h2)))) fun z2 =>
    cond (!z2)
     (some ((3 : Int), ([], ([], ([], [])))))
     (obind (t__store_trip_round_phhhnm N (h, (h2, (s, (s2, (s3, [])))))) fun z3 =>
      obind (t__store_trip_tower_phhhom N (z3.2.1, (z3.2.2.1, (z3.2.2.2.1, (z3.2.2.2.2.2, z3.2.2.2.2.1))))) fun z4 =>
      cond (!(decide (z3.1 = (0 : Int))))
       (some ((8 : Int), ([], ([], ([], [])))))
       (cond (!z4.1)
         (some ((8 : Int), ([], ([], ([], [])))))
         (some ((0 : Int), (z4.2.1, (z4.2.2.1, (z4.2.2.2.1, z4.2.2.2.2.1))))))))
theorem q_m_store_Read : ∀ (N : Nat) (v : (List Int) × (List Int) × (List (Int × (Int × (List (Int × Int))))) × Int × Int), m_store_Read N v = t_store_Read N v
  | 0, _ => by kernel_rfl
  | N + 1, (s, s2, s3, h, h2) => by
    rw [m_store_Read_eq, t_store_Read, (fcP (fcL fcI) (fcP (fcL fcI) (fcP (fcL (fcP fcI (fcP fcI (fcL (fcP fcI fcI))))) (fcP fcI fcI)))).ok]
    all_goals first | rfl | (simp only [q_m__store_trip_round_phhhnm, q_m__store_trip_tower_phhhom, q_m_pool_Good, q_m_store_Right, bitI_eq, dem_D]; done) | (simp only [q_m__store_trip_round_phhhnm, q_m__store_trip_tower_phhhom, q_m_pool_Good, q_m_store_Right, bitI_eq, dem_D]; rfl)
def t_store_leadsF1_ph : Nat → Int × Int × Int → Option (Bool × Int)
  | 0, _ => none
  | N + 1, v => (fcP fcI (fcP fcI fcI)).f v fun (h, h2, v4294967296) => some ((decide (h = v4294967296)), v4294967296)
theorem q_m_store_leadsF1_ph : ∀ (N : Nat) (v : Int × Int × Int), m_store_leadsF1_ph N v = t_store_leadsF1_ph N v
  | 0, _ => by kernel_rfl
  | N + 1, (h, h2, v4294967296) => by
    rw [m_store_leadsF1_ph_eq, t_store_leadsF1_ph, (fcP fcI (fcP fcI fcI)).ok]
    all_goals first | rfl | (simp only [bitI_eq, dem_D]; done) | (simp only [bitI_eq, dem_D]; rfl)
def tl_slices_IndexFunc_Lapi_Handle_api_Handle_store_leadsF1_f66ph_1 (N : Nat) : Nat → (List (Int × Int)) × Int × Int × Int → Option ((Int) ⊕ (Int × Int))
  | 0, _ => none
  | m + 1, v => (fcP (fcL (fcP fcI fcI)) (fcP fcI (fcP fcI fcI))).f v fun (s, v7, v8, f) => cond (decide (v8 < v7))
   (obind (nthI s v8) fun z1 =>
    obind (t_store_leadsF1_ph N (z1.1, (z1.2, f))) fun z2 =>
    cond z2.1
     (some (.inr (v8, z2.2)))
     ((tl_slices_IndexFunc_Lapi_Handle_api_Handle_store_leadsF1_f66ph_1 N m (s, (v7, ((IntKind.wrap .i64 (v8 + (1 : Int))), z2.2))))))
   (some (.inl f))
theorem q_l_slices_IndexFunc_Lapi_Handle_api_Handle_store_leadsF1_f66ph_1 (N : Nat) : ∀ (m : Nat) (v : (List (Int × Int)) × Int × Int × Int), l_slices_IndexFunc_Lapi_Handle_api_Handle_store_leadsF1_f66ph_1 N m v = tl_slices_IndexFunc_Lapi_Handle_api_Handle_store_leadsF1_f66ph_1 N m v
  | 0, _ => by kernel_rfl
  | m + 1, (s, v7, v8, f) => by
    rw [l_slices_IndexFunc_Lapi_Handle_api_Handle_store_leadsF1_f66ph_1_s, tl_slices_IndexFunc_Lapi_Handle_api_Handle_store_leadsF1_f66ph_1, (fcP (fcL (fcP fcI fcI)) (fcP fcI (fcP fcI fcI))).ok]
    all_goals first | rfl | (simp only [q_m_store_leadsF1_ph, bitI_eq, dem_D, q_l_slices_IndexFunc_Lapi_Handle_api_Handle_store_leadsF1_f66ph_1 N m]; done) | (simp only [q_m_store_leadsF1_ph, bitI_eq, dem_D, q_l_slices_IndexFunc_Lapi_Handle_api_Handle_store_leadsF1_f66ph_1 N m]; rfl)
def t_slices_IndexFunc_Lapi_Handle_api_Handle_store_leadsF1_f66ph : Nat → (List (Int × Int)) × Int → Option (Int × Int)
  | 0, _ => none
  | N + 1, v => (fcP (fcL (fcP fcI fcI)) fcI).f v fun (s, f) => obind (tl_slices_IndexFunc_Lapi_Handle_api_Handle_store_leadsF1_f66ph_1 N N (s, ((((List.length s) : Nat) : Int), ((0 : Int), f)))) fun z1 =>
  (match z1 with
  | .inl zy2 => some ((-(1 : Int)), zy2)
  | .inr zy3 => some (zy3.1, zy3.2))
theorem q_m_slices_IndexFunc_Lapi_Handle_api_Handle_store_leadsF1_f66ph : ∀ (N : Nat) (v : (List (Int × Int)) × Int), m_slices_IndexFunc_Lapi_Handle_api_Handle_store_leadsF1_f66ph N v = t_slices_IndexFunc_Lapi_Handle_api_Handle_store_leadsF1_f66ph N v
  | 0, _ => by kernel_rfl
  | N + 1, (s, f) => by
    rw [m_slices_IndexFunc_Lapi_Handle_api_Handle_store_leadsF1_f66ph_eq, t_slices_IndexFunc_Lapi_Handle_api_Handle_store_leadsF1_f66ph, (fcP (fcL (fcP fcI fcI)) fcI).ok]
    all_goals first | rfl | (simp only [q_l_slices_IndexFunc_Lapi_Handle_api_Handle_store_leadsF1_f66ph_1, bitI_eq, dem_D]; done) | (simp only [q_l_slices_IndexFunc_Lapi_Handle_api_Handle_store_leadsF1_f66ph_1, bitI_eq, dem_D]; rfl)
def t_slices_ContainsFunc_Lapi_Handle_api_Handle_store_leadsF1_f66ph : Nat → (List (Int × Int)) × Int → Option (Bool × Int)
  | 0, _ => none
  | N + 1, v => (fcP (fcL (fcP fcI fcI)) fcI).f v fun (s, f) => obind (t_slices_IndexFunc_Lapi_Handle_api_Handle_store_leadsF1_f66ph N (s, f)) fun z1 =>
  some ((decide ((0 : Int) ≤ z1.1)), z1.2)
theorem q_m_slices_ContainsFunc_Lapi_Handle_api_Handle_store_leadsF1_f66ph : ∀ (N : Nat) (v : (List (Int × Int)) × Int), m_slices_ContainsFunc_Lapi_Handle_api_Handle_store_leadsF1_f66ph N v = t_slices_ContainsFunc_Lapi_Handle_api_Handle_store_leadsF1_f66ph N v
  | 0, _ => by kernel_rfl
  | N + 1, (s, f) => by
    rw [m_slices_ContainsFunc_Lapi_Handle_api_Handle_store_leadsF1_f66ph_eq, t_slices_ContainsFunc_Lapi_Handle_api_Handle_store_leadsF1_f66ph, (fcP (fcL (fcP fcI fcI)) fcI).ok]
    all_goals first | rfl | (simp only [q_m_slices_IndexFunc_Lapi_Handle_api_Handle_store_leadsF1_f66ph, bitI_eq, dem_D]; done) | (simp only [q_m_slices_IndexFunc_Lapi_Handle_api_Handle_store_leadsF1_f66ph, bitI_eq, dem_D]; rfl)
def tl_slices_Index_Lapi_Handle_api_Handle_1 (N : Nat) : Nat → (List (Int × Int)) × Int × Int × Int × Int → Option ((Unit) ⊕ (Int))
  | 0, _ => none
  | m + 1, v => (fcP (fcL (fcP fcI fcI)) (fcP fcI (fcP fcI (fcP fcI fcI)))).f v fun (s, v7, v8, v, v2) => cond (decide (v8 < v7))
   (obind (nthI s v8) fun z1 =>
    cond ((decide (v = z1.1)) && (decide (v2 = z1.2)))
     (some (.inr v8))
     ((tl_slices_Index_Lapi_Handle_api_Handle_1 N m (s, (v7, ((IntKind.wrap .i64 (v8 + (1 : Int))), (v, v2)))))))
   (some (.inl ()))
theorem q_l_slices_Index_Lapi_Handle_api_Handle_1 (N : Nat) : ∀ (m : Nat) (v : (List (Int × Int)) × Int × Int × Int × Int), l_slices_Index_Lapi_Handle_api_Handle_1 N m v = tl_slices_Index_Lapi_Handle_api_Handle_1 N m v
  | 0, _ => by kernel_rfl
  | m + 1, (s, v7, v8, v, v2) => by
    rw [l_slices_Index_Lapi_Handle_api_Handle_1_s, tl_slices_Index_Lapi_Handle_api_Handle_1, (fcP (fcL (fcP fcI fcI)) (fcP fcI (fcP fcI (fcP fcI fcI)))).ok]
    all_goals first | rfl | (simp only [bitI_eq, dem_D, q_l_slices_Index_Lapi_Handle_api_Handle_1 N m]; done) | (simp only [bitI_eq, dem_D, q_l_slices_Index_Lapi_Handle_api_Handle_1 N m]; rfl)
def t_slices_Index_Lapi_Handle_api_Handle : Nat → (List (Int × Int)) × Int × Int → Option (Int)
  | 0, _ => none
  | N + 1, v => (fcP (fcL (fcP fcI fcI)) (fcP fcI fcI)).f v fun (s, v, v2) => obind (tl_slices_Index_Lapi_Handle_api_Handle_1 N N (s, ((((List.length s) : Nat) : Int), ((0 : Int), (v, v2))))) fun z1 =>
  (match z1 with
  | .inl zy2 => some (-(1 : Int))
  | .inr zy3 => some zy3)
theorem q_m_slices_Index_Lapi_Handle_api_Handle : ∀ (N : Nat) (v : (List (Int × Int)) × Int × Int), m_slices_Index_Lapi_Handle_api_Handle N v = t_slices_Index_Lapi_Handle_api_Handle N v
  | 0, _ => by kernel_rfl
  | N + 1, (s, v, v2) => by
    rw [m_slices_Index_Lapi_Handle_api_Handle_eq, t_slices_Index_Lapi_Handle_api_Handle, (fcP (fcL (fcP fcI fcI)) (fcP fcI fcI)).ok]
    all_goals first | rfl | (simp only [q_l_slices_Index_Lapi_Handle_api_Handle_1, bitI_eq, dem_D]; done) | (simp only [q_l_slices_Index_Lapi_Handle_api_Handle_1, bitI_eq, dem_D]; rfl)
def t_slices_Contains_Lapi_Handle_api_Handle : Nat → (List (Int × Int)) × Int × Int → Option (Bool)
  | 0, _ => none
  | N + 1, v => (fcP (fcL (fcP fcI fcI)) (fcP fcI fcI)).f v fun (s, v, v2) => obind (t_slices_Index_Lapi_Handle_api_Handle N (s, (v, v2))) fun z1 =>
  some (decide ((0 : Int) ≤ z1))
theorem q_m_slices_Contains_Lapi_Handle_api_Handle : ∀ (N : Nat) (v : (List (Int × Int)) × Int × Int), m_slices_Contains_Lapi_Handle_api_Handle N v = t_slices_Contains_Lapi_Handle_api_Handle N v
  | 0, _ => by kernel_rfl
  | N + 1, (s, v, v2) => by
    rw [m_slices_Contains_Lapi_Handle_api_Handle_eq, t_slices_Contains_Lapi_Handle_api_Handle, (fcP (fcL (fcP fcI fcI)) (fcP fcI fcI)).ok]
    all_goals first | rfl | (simp only [q_m_slices_Index_Lapi_Handle_api_Handle, bitI_eq, dem_D]; done) | (simp only [q_m_slices_Index_Lapi_Handle_api_Handle, bitI_eq, dem_D]; rfl)
def t_store_leadsF2_ph : Nat → Int × Int × (List (Int × Int)) → Option (Bool × (List (Int × Int)))
  | 0, _ => none
  | N + 1, v => (fcP fcI (fcP fcI (fcL (fcP fcI fcI)))).f v fun (h, h2, v4294967296) => obind (t_slices_Contains_Lapi_Handle_api_Handle N (v4294967296, (h, h2))) fun z1 =>
  some (z1, v4294967296)
theorem q_m_store_leadsF2_ph : ∀ (N : Nat) (v : Int × Int × (List (Int × Int))), m_store_leadsF2_ph N v = t_store_leadsF2_ph N v
  | 0, _ => by kernel_rfl
  | N + 1, (h, h2, v4294967296) => by
    rw [m_store_leadsF2_ph_eq, t_store_leadsF2_ph, (fcP fcI (fcP fcI (fcL (fcP fcI fcI)))).ok]
    all_goals first | rfl | (simp only [q_m_slices_Contains_Lapi_Handle_api_Handle, bitI_eq, dem_D]; done) | (simp only [q_m_slices_Contains_Lapi_Handle_api_Handle, bitI_eq, dem_D]; rfl)
def tl_slices_IndexFunc_Lapi_Handle_api_Handle_store_leadsF2_f67ph_1 (N : Nat) : Nat → (List (Int × Int)) × Int × Int × (List (Int × Int)) → Option (((List (Int × Int))) ⊕ (Int × (List (Int × Int))))
  | 0, _ => none
  | m + 1, v => (fcP (fcL (fcP fcI fcI)) (fcP fcI (fcP fcI (fcL (fcP fcI fcI))))).f v fun (s, v7, v8, f) => cond (decide (v8 < v7))
   (obind (nthI s v8) fun z1 =>
    obind (t_store_leadsF2_ph N (z1.1, (z1.2, f))) fun z2 =>
    cond z2.1
     (some (.inr (v8, z2.2)))
     ((tl_slices_IndexFunc_Lapi_Handle_api_Handle_store_leadsF2_f67ph_1 N m (s, (v7, ((IntKind.wrap .i64 (v8 + (1 : Int))), z2.2))))))
   (some (.inl f))
theorem q_l_slices_IndexFunc_Lapi_Handle_api_Handle_store_leadsF2_f67ph_1 (N : Nat) : ∀ (m : Nat) (v : (List (Int × Int)) × Int × Int × (List (Int × Int))), l_slices_IndexFunc_Lapi_Handle_api_Handle_store_leadsF2_f67ph_1 N m v = tl_slices_IndexFunc_Lapi_Handle_api_Handle_store_leadsF2_f67ph_1 N m v
  | 0, _ => by kernel_rfl
  | m + 1, (s, v7, v8, f) => by
    rw [l_slices_IndexFunc_Lapi_Handle_api_Handle_store_leadsF2_f67ph_1_s, tl_slices_IndexFunc_Lapi_Handle_api_Handle_store_leadsF2_f67ph_1, (fcP (fcL (fcP fcI fcI)) (fcP fcI (fcP fcI (fcL (fcP fcI fcI))))).ok]
    all_goals first | rfl | (simp only [q_m_store_leadsF2_ph, bitI_eq, dem_D, q_l_slices_IndexFunc_Lapi_Handle_api_Handle_store_leadsF2_f67ph_1 N m]; done) | (simp only [q_m_store_leadsF2_ph, bitI_eq, dem_D, q_l_slices_IndexFunc_Lapi_Handle_api_Handle_store_leadsF2_f67ph_1 N m]; rfl)
def t_slices_IndexFunc_Lapi_Handle_api_Handle_store_leadsF2_f67ph : Nat → (List (Int × Int)) × (List (Int × Int)) → Option (Int × (List (Int × Int)))
  | 0, _ => none
  | N + 1, v => (fcP (fcL (fcP fcI fcI)) (fcL (fcP fcI fcI))).f v fun (s, f) => obind (tl_slices_IndexFunc_Lapi_Handle_api_Handle_store_leadsF2_f67ph_1 N N (s, ((((List.length s) : Nat) : Int), ((0 : Int), f)))) fun z1 =>
  (match z1 with
  | .inl zy2 => some ((-(1 : Int)), zy2)
  | .inr zy3 => some (zy3.1, zy3.2))
theorem q_m_slices_IndexFunc_Lapi_Handle_api_Handle_store_leadsF2_f67ph : ∀ (N : Nat) (v : (List (Int × Int)) × (List (Int × Int))), m_slices_IndexFunc_Lapi_Handle_api_Handle_store_leadsF2_f67ph N v = t_slices_IndexFunc_Lapi_Handle_api_Handle_store_leadsF2_f67ph N v
  | 0, _ => by kernel_rfl
  | N + 1, (s, f) => by
    rw [m_slices_IndexFunc_Lapi_Handle_api_Handle_store_leadsF2_f67ph_eq, t_slices_IndexFunc_Lapi_Handle_api_Handle_store_leadsF2_f67ph, (fcP (fcL (fcP fcI fcI)) (fcL (fcP fcI fcI))).ok]
    all_goals first | rfl | (simp only [q_l_slices_IndexFunc_Lapi_Handle_api_Handle_store_leadsF2_f67ph_1, bitI_eq, dem_D]; done) | (simp only [q_l_slices_IndexFunc_Lapi_Handle_api_Handle_store_leadsF2_f67ph_1, bitI_eq, dem_D]; rfl)
def t_slices_ContainsFunc_Lapi_Handle_api_Handle_store_leadsF2_f67ph : Nat → (List (Int × Int)) × (List (Int × Int)) → Option (Bool × (List (Int × Int)))
  | 0, _ => none
  | N + 1, v => (fcP (fcL (fcP fcI fcI)) (fcL (fcP fcI fcI))).f v fun (s, f) => obind (t_slices_IndexFunc_Lapi_Handle_api_Handle_store_leadsF2_f67ph N (s, f)) fun z1 =>
  some ((decide ((0 : Int) ≤ z1.1)), z1.2)
theorem q_m_slices_ContainsFunc_Lapi_Handle_api_Handle_store_leadsF2_f67ph : ∀ (N : Nat) (v : (List (Int × Int)) × (List (Int × Int))), m_slices_ContainsFunc_Lapi_Handle_api_Handle_store_leadsF2_f67ph N v = t_slices_ContainsFunc_Lapi_Handle_api_Handle_store_leadsF2_f67ph N v
  | 0, _ => by kernel_rfl
  | N + 1, (s, f) => by
    rw [m_slices_ContainsFunc_Lapi_Handle_api_Handle_store_leadsF2_f67ph_eq, t_slices_ContainsFunc_Lapi_Handle_api_Handle_store_leadsF2_f67ph, (fcP (fcL (fcP fcI fcI)) (fcL (fcP fcI fcI))).ok]
    all_goals first | rfl | (simp only [q_m_slices_IndexFunc_Lapi_Handle_api_Handle_store_leadsF2_f67ph, bitI_eq, dem_D]; done) | (simp only [q_m_slices_IndexFunc_Lapi_Handle_api_Handle_store_leadsF2_f67ph, bitI_eq, dem_D]; rfl)
def tl_store_leads_1 (N : Nat) : Nat → (List (Int × (Int × (List (Int × Int))))) × Int × Int × (List (Int × Int)) → Option ((Unit) ⊕ (Bool))
  | 0, _ => none
  | m + 1, v => (fcP (fcL (fcP fcI (fcP fcI (fcL (fcP fcI fcI))))) (fcP fcI (fcP fcI (fcL (fcP fcI fcI))))).f v fun (v9, v10, v11, l) => cond (decide (v11 < v10))
   (obind (nthI v9 v11) fun z1 =>
    obind (t_slices_ContainsFunc_Lapi_Handle_api_Handle_store_leadsF1_f66ph N (l, v11)) fun z2 =>
    cond (!z2.1)
     (obind (t_slices_ContainsFunc_Lapi_Handle_api_Handle_store_leadsF2_f67ph N (z1.2.2, l)) fun z3 =>
      cond z3.1
       (some (.inr true))
       ((tl_store_leads_1 N m (v9, (v10, ((IntKind.wrap .i64 (v11 + (1 : Int))), z3.2))))))
     ((tl_store_leads_1 N m (v9, (v10, ((IntKind.wrap .i64 (v11 + (1 : Int))), l))))))
   (some (.inl ()))
theorem q_l_store_leads_1 (N : Nat) : ∀ (m : Nat) (v : (List (Int × (Int × (List (Int × Int))))) × Int × Int × (List (Int × Int))), l_store_leads_1 N m v = tl_store_leads_1 N m v
  | 0, _ => by kernel_rfl
  | m + 1, (v9, v10, v11, l) => by
    rw [l_store_leads_1_s, tl_store_leads_1, (fcP (fcL (fcP fcI (fcP fcI (fcL (fcP fcI fcI))))) (fcP fcI (fcP fcI (fcL (fcP fcI fcI))))).ok]
    all_goals first | rfl | (simp only [q_m_slices_ContainsFunc_Lapi_Handle_api_Handle_store_leadsF1_f66ph, q_m_slices_ContainsFunc_Lapi_Handle_api_Handle_store_leadsF2_f67ph, bitI_eq, dem_D, q_l_store_leads_1 N m]; done) | (simp only [q_m_slices_ContainsFunc_Lapi_Handle_api_Handle_store_leadsF1_f66ph, q_m_slices_ContainsFunc_Lapi_Handle_api_Handle_store_leadsF2_f67ph, bitI_eq, dem_D, q_l_store_leads_1 N m]; rfl)
def t_store_leads : Nat → (List Int) × (List Int) × (List (Int × (Int × (List (Int × Int))))) × (List (Int × Int)) → Option (Bool)
  | 0, _ => none
  | N + 1, v => (fcP (fcL fcI) (fcP (fcL fcI) (fcP (fcL (fcP fcI (fcP fcI (fcL (fcP fcI fcI))))) (fcL (fcP fcI fcI))))).f v fun (s, s2, s3, l) => obind (tl_store_leads_1 N N (s3, ((((List.length s3) : Nat) : Int), ((0 : Int), l)))) fun z1 =>
  (match z1 with
  | .inl zy2 => some false
  | .inr zy3 => some zy3)
theorem q_m_store_leads : ∀ (N : Nat) (v : (List Int) × (List Int) × (List (Int × (Int × (List (Int × Int))))) × (List (Int × Int))), m_store_leads N v = t_store_leads N v
  | 0, _ => by kernel_rfl
  | N + 1, (s, s2, s3, l) => by
    rw [m_store_leads_eq, t_store_leads, (fcP (fcL fcI) (fcP (fcL fcI) (fcP (fcL (fcP fcI (fcP fcI (fcL (fcP fcI fcI))))) (fcL (fcP fcI fcI))))).ok]
    all_goals first | rfl | (simp only [q_l_store_leads_1, bitI_eq, dem_D]; done) | (simp only [q_l_store_leads_1, bitI_eq, dem_D]; rfl)
def t_slices_Backward_Lapi_Handle_api_Handle : Nat → (List (Int × Int)) → Option ((List (Int × Int)))
  | 0, _ => none
  | N + 1, v => (fcL (fcP fcI fcI)).f v fun (s) => some s
theorem q_m_slices_Backward_Lapi_Handle_api_Handle : ∀ (N : Nat) (v : (List (Int × Int))), m_slices_Backward_Lapi_Handle_api_Handle N v = t_slices_Backward_Lapi_Handle_api_Handle N v
  | 0, _ => by kernel_rfl
  | N + 1, (s) => by
    rw [m_slices_Backward_Lapi_Handle_api_Handle_eq, t_slices_Backward_Lapi_Handle_api_Handle, (fcL (fcP fcI fcI)).ok]
    all_goals first | rfl | (simp only [bitI_eq, dem_D]; done) | (simp only [bitI_eq, dem_D]; rfl)
def t_pool_Give : Nat → (List Int) × (List Int) × Int × Int → Option (Int × (List Int) × (List Int))
  | 0, _ => none
  | N + 1, v => (fcP (fcL fcI) (fcP (fcL fcI) (fcP fcI fcI))).f v fun (p, p2, h, h2) => obind (t_pool_Right N (p, p2)) fun z1 =>
  cond (!z1)
   (some ((1 : Int), (p, p2)))
   (obind (t_pool_Good N (p, (p2, (h, h2)))) fun z2 =>
    cond (!z2)
     (some ((3 : Int), (p, p2)))
     (obind (t_slices_Clip_Lint_int N p2) fun z3 =>
      obind (appI (8 : Nat) z3 [h]) fun z4 =>
      some ((0 : Int), (p, z4))))
theorem q_m_pool_Give : ∀ (N : Nat) (v : (List Int) × (List Int) × Int × Int), m_pool_Give N v = t_pool_Give N v
  | 0, _ => by kernel_rfl
  | N + 1, (p, p2, h, h2) => by
    rw [m_pool_Give_eq, t_pool_Give, (fcP (fcL fcI) (fcP (fcL fcI) (fcP fcI fcI))).ok]
    all_goals first | rfl | (simp only [q_m_pool_Good, q_m_pool_Right, q_m_slices_Clip_Lint_int, bitI_eq, dem_D]; done) | (simp only [q_m_pool_Good, q_m_pool_Right, q_m_slices_Clip_Lint_int, bitI_eq, dem_D]; rfl)
def tl_store_Give_1 (N : Nat) : List (Int × (Int × Int)) → (List Int) × (List Int) × (List (Int × (Int × (List (Int × Int))))) → Option ((List Int) × (List Int) × (List (Int × (Int × (List (Int × Int))))))
  | [], v => (fcP (fcL fcI) (fcP (fcL fcI) (fcL (fcP fcI (fcP fcI (fcL (fcP fcI fcI))))))).f v fun (out, out2, v902) => some (out, (out2, v902))
  | (ri, (rc, rg)) :: rl, v => (fcP (fcL fcI) (fcP (fcL fcI) (fcL (fcP fcI (fcP fcI (fcL (fcP fcI fcI))))))).f v fun (out, out2, v902) => obind (t_pool_Give N (out, (out2, (rc, rg)))) fun z1 =>
  obind (nthI v902 rc) fun z2 =>
  obind (nthI v902 rc) fun z3 =>
  (tl_store_Give_1 N rl (z1.2.1, (z1.2.2, (List.set v902 (Int.toNat rc) ((0 : Int), ((0 : Int), []))))))
theorem q_l_store_Give_1 (N : Nat) : ∀ (l : List (Int × (Int × Int))) (v : (List Int) × (List Int) × (List (Int × (Int × (List (Int × Int)))))), l_store_Give_1 N l v = tl_store_Give_1 N l v
  | [], (out, out2, v902) => by
    rw [l_store_Give_1_z, tl_store_Give_1, (fcP (fcL fcI) (fcP (fcL fcI) (fcL (fcP fcI (fcP fcI (fcL (fcP fcI fcI))))))).ok]
  | (ri, (rc, rg)) :: rl, (out, out2, v902) => by
    rw [l_store_Give_1_s, tl_store_Give_1, (fcP (fcL fcI) (fcP (fcL fcI) (fcL (fcP fcI (fcP fcI (fcL (fcP fcI fcI))))))).ok]
    all_goals first | rfl | (simp only [q_m_pool_Give, bitI_eq, dem_D, q_l_store_Give_1 N rl]; done) | (simp only [q_m_pool_Give, bitI_eq, dem_D, q_l_store_Give_1 N rl]; rfl)
def t_store_Give : Nat → (List Int) × (List Int) × (List (Int × (Int × (List (Int × Int))))) × Int × Int → Option (Int × (List Int) × (List Int) × (List (Int × (Int × (List (Int × Int))))))
  | 0, _ => none
  | N + 1, v => (fcP (fcL fcI) (fcP (fcL fcI) (fcP (fcL (fcP fcI (fcP fcI (fcL (fcP fcI fcI))))) (fcP fcI fcI)))).f v fun (s, s2, s3, h, h2) => obind (t_store_Read N (s, (s2, (s3, (h, h2))))) fun z1 =>
  cond (!(decide (z1.1 = (0 : Int))))
   (some (z1.1, (s, (s2, s3))))
   (obind (t_store_leads N (s, (s2, (s3, z1.2.2.2.2)))) fun z2 =>
    cond z2
     (some ((5 : Int), (s, (s2, s3))))
     (obind (t_slices_Clone_Lapi_Node_api_Node N s3) fun z3 =>
      obind (t_slices_Backward_Lapi_Handle_api_Handle N z1.2.2.2.2) fun z4 =>
      obind (tl_store_Give_1 N (bwI z4) (s, (s2, z3))) fun z5 =>
      some ((0 : Int), (z5.1, (z5.2.1, z5.2.2)))))
theorem q_m_store_Give : ∀ (N : Nat) (v : (List Int) × (List Int) × (List (Int × (Int × (List (Int × Int))))) × Int × Int), m_store_Give N v = t_store_Give N v
  | 0, _ => by kernel_rfl
  | N + 1, (s, s2, s3, h, h2) => by
    rw [m_store_Give_eq, t_store_Give, (fcP (fcL fcI) (fcP (fcL fcI) (fcP (fcL (fcP fcI (fcP fcI (fcL (fcP fcI fcI))))) (fcP fcI fcI)))).ok]
    all_goals first | rfl | (simp only [q_l_store_Give_1, q_m_slices_Backward_Lapi_Handle_api_Handle, q_m_slices_Clone_Lapi_Node_api_Node, q_m_store_Read, q_m_store_leads, bitI_eq, dem_D]; done) | (simp only [q_l_store_Give_1, q_m_slices_Backward_Lapi_Handle_api_Handle, q_m_slices_Clone_Lapi_Node_api_Node, q_m_store_Read, q_m_store_leads, bitI_eq, dem_D]; rfl)
def tl_ref01_Ints_1 (N : Nat) : Nat → (List Int) × (List Int) × Int → Option ((Unit) ⊕ (Bool))
  | 0, _ => none
  | m + 1, v => (fcP (fcL fcI) (fcP (fcL fcI) fcI)).f v fun (a, b, i) => cond (decide (i < (((List.length a) : Nat) : Int)))
   (obind (nthI a i) fun z1 =>
    obind (nthI b i) fun z2 =>
    cond (!(decide (z1 = z2)))
     (some (.inr false))
     ((tl_ref01_Ints_1 N m (a, (b, (IntKind.wrap .i64 (i + (1 : Int))))))))
   (some (.inl ()))
theorem q_l_ref01_Ints_1 (N : Nat) : ∀ (m : Nat) (v : (List Int) × (List Int) × Int), l_ref01_Ints_1 N m v = tl_ref01_Ints_1 N m v
  | 0, _ => by kernel_rfl
  | m + 1, (a, b, i) => by
    rw [l_ref01_Ints_1_s, tl_ref01_Ints_1, (fcP (fcL fcI) (fcP (fcL fcI) fcI)).ok]
    all_goals first | rfl | (simp only [bitI_eq, dem_D, q_l_ref01_Ints_1 N m]; done) | (simp only [bitI_eq, dem_D, q_l_ref01_Ints_1 N m]; rfl)
def t_ref01_Ints : Nat → (List Int) × (List Int) → Option (Bool)
  | 0, _ => none
  | N + 1, v => (fcP (fcL fcI) (fcL fcI)).f v fun (a, b) => cond (!(decide ((((List.length a) : Nat) : Int) = (((List.length b) : Nat) : Int))))
   (some false)
   (obind (tl_ref01_Ints_1 N N (a, (b, (0 : Int)))) fun z1 =>
    (match z1 with
    | .inl zy2 => some true
    | .inr zy3 => some zy3))
theorem q_m_ref01_Ints : ∀ (N : Nat) (v : (List Int) × (List Int)), m_ref01_Ints N v = t_ref01_Ints N v
  | 0, _ => by kernel_rfl
  | N + 1, (a, b) => by
    rw [m_ref01_Ints_eq, t_ref01_Ints, (fcP (fcL fcI) (fcL fcI)).ok]
    all_goals first | rfl | (simp only [q_l_ref01_Ints_1, bitI_eq, dem_D]; done) | (simp only [q_l_ref01_Ints_1, bitI_eq, dem_D]; rfl)
def tl_ref14_Lists_1 (N : Nat) : Nat → (List (List Int)) × (List (List Int)) × Int → Option ((Unit) ⊕ (Bool))
  | 0, _ => none
  | m + 1, v => (fcP (fcL (fcL fcI)) (fcP (fcL (fcL fcI)) fcI)).f v fun (a, b, i) => cond (decide (i < (((List.length a) : Nat) : Int)))
   (obind (nthI a i) fun z1 =>
    obind (nthI b i) fun z2 =>
    obind (t_ref01_Ints N (z1, z2)) fun z3 =>
    cond (!z3)
     (some (.inr false))
     ((tl_ref14_Lists_1 N m (a, (b, (IntKind.wrap .i64 (i + (1 : Int))))))))
   (some (.inl ()))
theorem q_l_ref14_Lists_1 (N : Nat) : ∀ (m : Nat) (v : (List (List Int)) × (List (List Int)) × Int), l_ref14_Lists_1 N m v = tl_ref14_Lists_1 N m v
  | 0, _ => by kernel_rfl
  | m + 1, (a, b, i) => by
    rw [l_ref14_Lists_1_s, tl_ref14_Lists_1, (fcP (fcL (fcL fcI)) (fcP (fcL (fcL fcI)) fcI)).ok]
    all_goals first | rfl | (simp only [q_m_ref01_Ints, bitI_eq, dem_D, q_l_ref14_Lists_1 N m]; done) | (simp only [q_m_ref01_Ints, bitI_eq, dem_D, q_l_ref14_Lists_1 N m]; rfl)
def t_ref14_Lists : Nat → (List (List Int)) × (List (List Int)) → Option (Bool)
  | 0, _ => none
  | N + 1, v => (fcP (fcL (fcL fcI)) (fcL (fcL fcI))).f v fun (a, b) => cond (!(decide ((((List.length a) : Nat) : Int) = (((List.length b) : Nat) : Int))))
   (some false)
   (obind (tl_ref14_Lists_1 N N (a, (b, (0 : Int)))) fun z1 =>
    (match z1 with
    | .inl zy2 => some true
    | .inr zy3 => some zy3))
theorem q_m_ref14_Lists : ∀ (N : Nat) (v : (List (List Int)) × (List (List Int))), m_ref14_Lists N v = t_ref14_Lists N v
  | 0, _ => by kernel_rfl
  | N + 1, (a, b) => by
    rw [m_ref14_Lists_eq, t_ref14_Lists, (fcP (fcL (fcL fcI)) (fcL (fcL fcI))).ok]
    all_goals first | rfl | (simp only [q_l_ref14_Lists_1, bitI_eq, dem_D]; done) | (simp only [q_l_ref14_Lists_1, bitI_eq, dem_D]; rfl)
def t_ref14_Same : Nat → (List Int) × (List Int) × (List (List Int)) × (List Int) × (List Int) × (List (List Int)) → Option (Bool)
  | 0, _ => none
  | N + 1, v => (fcP (fcL fcI) (fcP (fcL fcI) (fcP (fcL (fcL fcI)) (fcP (fcL fcI) (fcP (fcL fcI) (fcL (fcL fcI))))))).f v fun (a, a2, a3, b, b2, b3) => obind (t_ref01_Ints N (a, b)) fun z1 =>
  cond z1
   (obind (t_ref01_Ints N (a2, b2)) fun z2 =>
    cond z2
     (obind (t_ref14_Lists N (a3, b3)) fun z3 =>
      some z3)
     (some false))
   (some false)
theorem q_m_ref14_Same : ∀ (N : Nat) (v : (List Int) × (List Int) × (List (List Int)) × (List Int) × (List Int) × (List (List Int))), m_ref14_Same N v = t_ref14_Same N v
  | 0, _ => by kernel_rfl
  | N + 1, (a, a2, a3, b, b2, b3) => by
    rw [m_ref14_Same_eq, t_ref14_Same, (fcP (fcL fcI) (fcP (fcL fcI) (fcP (fcL (fcL fcI)) (fcP (fcL fcI) (fcP (fcL fcI) (fcL (fcL fcI))))))).ok]
    all_goals first | rfl | (simp only [q_m_ref01_Ints, q_m_ref14_Lists, bitI_eq, dem_D]; done) | (simp only [q_m_ref01_Ints, q_m_ref14_Lists, bitI_eq, dem_D]; rfl)
def tl_ref30_Handles_1 (N : Nat) : Nat → (List (Int × Int)) × (List (Int × Int)) × Int → Option ((Unit) ⊕ (Bool))
  | 0, _ => none
  | m + 1, v => (fcP (fcL (fcP fcI fcI)) (fcP (fcL (fcP fcI fcI)) fcI)).f v fun (a, b, i) => cond (decide (i < (((List.length a) : Nat) : Int)))
   (obind (nthI a i) fun z1 =>
    obind (nthI b i) fun z2 =>
    cond (!((decide (z1.1 = z2.1)) && (decide (z1.2 = z2.2))))
     (some (.inr false))
     ((tl_ref30_Handles_1 N m (a, (b, (IntKind.wrap .i64 (i + (1 : Int))))))))
   (some (.inl ()))
theorem q_l_ref30_Handles_1 (N : Nat) : ∀ (m : Nat) (v : (List (Int × Int)) × (List (Int × Int)) × Int), l_ref30_Handles_1 N m v = tl_ref30_Handles_1 N m v
  | 0, _ => by kernel_rfl
  | m + 1, (a, b, i) => by
    rw [l_ref30_Handles_1_s, tl_ref30_Handles_1, (fcP (fcL (fcP fcI fcI)) (fcP (fcL (fcP fcI fcI)) fcI)).ok]
    all_goals first | rfl | (simp only [bitI_eq, dem_D, q_l_ref30_Handles_1 N m]; done) | (simp only [bitI_eq, dem_D, q_l_ref30_Handles_1 N m]; rfl)
def t_ref30_Handles : Nat → (List (Int × Int)) × (List (Int × Int)) → Option (Bool)
  | 0, _ => none
  | N + 1, v => (fcP (fcL (fcP fcI fcI)) (fcL (fcP fcI fcI))).f v fun (a, b) => cond (!(decide ((((List.length a) : Nat) : Int) = (((List.length b) : Nat) : Int))))
   (some false)
   (obind (tl_ref30_Handles_1 N N (a, (b, (0 : Int)))) fun z1 =>
    (match z1 with
    | .inl zy2 => some true
    | .inr zy3 => some zy3))
theorem q_m_ref30_Handles : ∀ (N : Nat) (v : (List (Int × Int)) × (List (Int × Int))), m_ref30_Handles N v = t_ref30_Handles N v
  | 0, _ => by kernel_rfl
  | N + 1, (a, b) => by
    rw [m_ref30_Handles_eq, t_ref30_Handles, (fcP (fcL (fcP fcI fcI)) (fcL (fcP fcI fcI))).ok]
    all_goals first | rfl | (simp only [q_l_ref30_Handles_1, bitI_eq, dem_D]; done) | (simp only [q_l_ref30_Handles_1, bitI_eq, dem_D]; rfl)
def t_law30_alive : Nat → Unit → Option (Bool)
  | 0, _ => none
  | N + 1, v => fcU.f v fun _ => obind (t_ref14_Build N ([(4 : Int), (7 : Int)], [(1 : Int), (2 : Int)])) fun z1 =>
  obind (t_ref14_Build N ([(9 : Int)], [(3 : Int)])) fun z2 =>
  obind (t_store_Make N (3 : Int)) fun z3 =>
  obind (t_store_Put N (z3.2.1, (z3.2.2.1, (z3.2.2.2, (z1.2.1, (z1.2.2.1, z1.2.2.2)))))) fun z4 =>
  obind (t_store_Put N (z4.2.1, (z4.2.2.1, (z4.2.2.2.1, (z2.2.1, (z2.2.2.1, z2.2.2.2)))))) fun z5 =>
  obind (t_store_Put N (z5.2.1, (z5.2.2.1, (z5.2.2.2.1, (z2.2.1, (z2.2.2.1, z2.2.2.2)))))) fun z6 =>
  obind (t_store_Read N (z5.2.1, (z5.2.2.1, (z5.2.2.2.1, ((1 : Int), (1 : Int)))))) fun z7 =>
  obind (t_store_Give N (z5.2.1, (z5.2.2.1, (z5.2.2.2.1, (z4.2.2.2.2.1, z4.2.2.2.2.2))))) fun z8 =>
  obind (t_store_Read N (z8.2.1, (z8.2.2.1, (z8.2.2.2, (z4.2.2.2.2.1, z4.2.2.2.2.2))))) fun z9 =>
  obind (t_store_Read N (z8.2.1, (z8.2.2.1, (z8.2.2.2, (z5.2.2.2.2.1, z5.2.2.2.2.2))))) fun z10 =>
  cond (!(decide (z3.1 = (0 : Int))))
   (some false)
   (cond (!(decide (z4.1 = (0 : Int))))
     (some false)
     (cond (!(decide (z5.1 = (0 : Int))))
       (some false)
       (cond (!(decide (z6.1 = (2 : Int))))
         (some false)
         (cond (!(decide (z7.1 = (0 : Int))))
           (some false)
           (cond (!(decide (z8.1 = (0 : Int))))
             (some false)
             (cond (!(decide (z9.1 = (3 : Int))))
               (some false)
               (cond (!(decide (z10.1 = (0 : Int))))
                 (some false)
                 (cond (!(decide ((((List.length z7.2.2.2.2) : Nat) : Int) = (2 : Int))))
                   (some false)
                   (cond (!(decide ((((List.length z10.2.2.2.2) : Nat) : Int) = (1 : Int))))
                     (some false)
                     (cond (!(decide ((((List.length z5.2.2.2.1) : Nat) : Int) = (3 : Int))))
                       (some false)
                       (cond ((decide (z4.2.2.2.2.1 = (0 : Int))) && (decide (z4.2.2.2.2.2 = (1 : Int))))
                         (cond ((decide (z5.2.2.2.2.1 = (2 : Int))) && (decide (z5.2.2.2.2.2 = (1 : Int))))
                           (obind (t_ref01_Ints N (z7.2.1, [(7 : Int), (4 : Int)])) fun z11 =>
                            cond z11
                             (obind (t_ref14_Same N (z10.2.1, (z10.2.2.1, (z10.2.2.2.1, (z2.2.1, (z2.2.2.1, z2.2.2.2)))))) fun z12 =>
                              cond z12
                               (obind (nthI z5.2.2.2.1 (1 : Int)) fun z13 =>
                                obind (t_ref30_Handles N (z13.2.2, [((0 : Int), (1 : Int)), ((1 : Int), (1 : Int))])) fun z14 =>
                                cond z14
                                 (obind (t_ref01_Ints N (z8.2.2.1, [(1 : Int), (0 : Int)])) fun z15 =>
                                  cond z15
                                   (obind (t_store_Right N (z8.2.1, (z8.2.2.1, z8.2.2.2))) fun z16 =>
                                    cond z16
                                     (obind (t_store_Right N ([], ([], []))) fun z17 =>
                                      some (!z17))
                                     (some false))
                                   (some false))
                                 (some false))
                               (some false))
                             (some false))
                           (some false))
                         (some false))))))))))))
theorem q_m_law30_alive : ∀ (N : Nat) (v : Unit), m_law30_alive N v = t_law30_alive N v
  | 0, _ => by kernel_rfl
  | N + 1, _ => by
    rw [m_law30_alive_eq, t_law30_alive, fcU.ok]
    all_goals first | rfl | (simp only [q_m_ref01_Ints, q_m_ref14_Build, q_m_ref14_Same, q_m_ref30_Handles, q_m_store_Give, q_m_store_Make, q_m_store_Put, q_m_store_Read, q_m_store_Right, bitI_eq, dem_D]; done) | (simp only [q_m_ref01_Ints, q_m_ref14_Build, q_m_ref14_Same, q_m_ref30_Handles, q_m_store_Give, q_m_store_Make, q_m_store_Put, q_m_store_Read, q_m_store_Right, bitI_eq, dem_D]; rfl)
end
end Go.Proofs.Ytdahghkmejnlgaa
end
section
namespace Go.Proofs.Ytdahghkmejnlgaa
open Go Go.RowKit
set_option maxRecDepth 100000
theorem alive30_k (N : Nat) : t_law30_alive (N + 100) () = some true := by kernel_rfl
theorem alive30 {N : Nat} (h : Fu ≤ N) : m_law30_alive N () = some true := by
  obtain ⟨M, rfl⟩ : ∃ M, N = M + 100 := ⟨N - 100, by rw [Fu_eq] at h; omega⟩
  rw [q_m_law30_alive]
  exact alive30_k M
end Go.Proofs.Ytdahghkmejnlgaa
end
section
set_option linter.unusedVariables false
set_option linter.unusedSimpArgs false
namespace Go.Proofs.Ytdahghkmejnlgaa
open Go Go.RowKit
/-- so many cells, taken one after the other -/
def takeN : Nat → List Int → List Int → Int × List Int × List Int × List Hd
  | 0, g, f => (0, g, f, [])
  | k + 1, g, f =>
    if (takeP g f).1 = 0 then
      if (takeN k (takeP g f).2.1 (takeP g f).2.2.1).1 = 0 then (0, (takeN k (takeP g f).2.1 (takeP g f).2.2.1).2.1, (takeN k (takeP g f).2.1 (takeP g f).2.2.1).2.2.1, (takeP g f).2.2.2 :: (takeN k (takeP g f).2.1 (takeP g f).2.2.1).2.2.2)
      else ((takeN k (takeP g f).2.1 (takeP g f).2.2.1).1, (takeN k (takeP g f).2.1 (takeP g f).2.2.1).2.1, (takeN k (takeP g f).2.1 (takeP g f).2.2.1).2.2.1, [])
    else ((takeP g f).1, (takeP g f).2.1, (takeP g f).2.2.1, [])
theorem takeN_s {k : Nat} {g f : List Int} (h1 : (takeP g f).1 = 0) (h2 : (takeN k (takeP g f).2.1 (takeP g f).2.2.1).1 = 0) : takeN (k + 1) g f = (0, (takeN k (takeP g f).2.1 (takeP g f).2.2.1).2.1, (takeN k (takeP g f).2.1 (takeP g f).2.2.1).2.2.1, (takeP g f).2.2.2 :: (takeN k (takeP g f).2.1 (takeP g f).2.2.1).2.2.2) := by
  rw [takeN, if_pos h1, if_pos h2]
theorem takeN_l {k : Nat} {g f : List Int} (h1 : (takeP g f).1 = 0) (h2 : ¬ (takeN k (takeP g f).2.1 (takeP g f).2.2.1).1 = 0) : takeN (k + 1) g f = ((takeN k (takeP g f).2.1 (takeP g f).2.2.1).1, (takeN k (takeP g f).2.1 (takeP g f).2.2.1).2.1, (takeN k (takeP g f).2.1 (takeP g f).2.2.1).2.2.1, []) := by
  rw [takeN, if_pos h1, if_neg h2]
theorem takeN_f {k : Nat} {g f : List Int} (h1 : ¬ (takeP g f).1 = 0) : takeN (k + 1) g f = ((takeP g f).1, (takeP g f).2.1, (takeP g f).2.2.1, []) := by
  rw [takeN, if_neg h1]
theorem taken_loop (N : Nat) (hN : Fu + 3 ≤ N) (n : Nat) (hn : n ≤ 1000) : ∀ (k i m : Nat) (g f : List Int) (l : List Hd), i + k = n → k < m → l.length ≤ i → g.length ≤ 9223372036854775807 → f.length ≤ 9223372036854775807 →
    l_store_taken_1 N m ((n : Int), (i : Int), g, f, l) = some (if (takeN k g f).1 = 0 then .inl ((takeN k g f).2.1, (takeN k g f).2.2.1, l ++ (takeN k g f).2.2.2) else .inr ((takeN k g f).1, (takeN k g f).2.1, (takeN k g f).2.2.1))
  | k, i, 0, g, f, l, h1, h2, _, _, _ => by omega
  | 0, i, m + 1, g, f, l, h1, h2, _, _, _ => by rw [l_store_taken_1_s, cd, if_neg (by omega)]; simp [takeN]
  | k + 1, i, m + 1, g, f, l, h1, h2, h3, hg, hf => by
    obtain ⟨l1, l2⟩ := takeP_len g f
    rw [l_store_taken_1_s, cd, if_pos (by omega), take_eq N hN g f hg hf, ob, cdn]
    by_cases h0 : (takeP g f).1 = 0
    · rw [if_pos h0, app_of (by omega) (by simp; omega), ob, w64n (by omega), taken_loop N hN n hn k (i + 1) m _ _ _ (by omega) (by omega) (by simp; omega) (by omega) (by omega)]
      by_cases h4 : (takeN k (takeP g f).2.1 (takeP g f).2.2.1).1 = 0
      · rw [if_pos h4, takeN_s h0 h4, if_pos rfl]; simp
      · rw [if_neg h4, takeN_l h0 h4, if_neg h4]
    · rw [if_neg h0, takeN_f h0, if_neg h0]
theorem taken_neq (N : Nat) (hN : Fu + 4 ≤ N) (n : Nat) (hn : n ≤ 1000) (g f : List Int) (hg : g.length ≤ 9223372036854775807) (hf : f.length ≤ 9223372036854775807) : ∃ r, m_store_taken N (g, f, (n : Int)) = some r ∧ r.1 = (takeN n g f).1 ∧ (r.1 = 0 → r = takeN n g f) := by
  obtain ⟨N, rfl⟩ : ∃ n, N = n + 1 := ⟨N - 1, by omega⟩
  rw [m_store_taken_eq, show ((0 : Int) = ((0 : Nat) : Int)) from rfl, taken_loop N (by omega) n hn n 0 N g f [] (by omega) (by have := Fu_eq; omega) (by simp) hg hf, ob]
  by_cases h : (takeN n g f).1 = 0
  · rw [if_pos h]
    refine ⟨_, rfl, h.symm, fun _ => ?_⟩
    simp only [List.nil_append]
    exact Prod.ext h.symm rfl
  · rw [if_neg h]
    exact ⟨_, rfl, rfl, fun q => absurd q h⟩
structure TakeOk (k : Nat) (g f : List Int) (r : Int × List Int × List Int × List Hd) : Prop where
  len : r.2.2.2.length = k
  free : f = r.2.2.1 ++ (r.2.2.2.map (·.1)).reverse
  gens : r.2.1.length = g.length
  same : ∀ c : Nat, (c : Int) ∉ r.2.2.2.map (·.1) → r.2.1.getD c 0 = g.getD c 0
  cell : ∀ h ∈ r.2.2.2, 0 ≤ h.1 ∧ h.1 < g.length ∧ r.2.1.getD h.1.toNat 0 = h.2 ∧ h.2 = g.getD h.1.toNat 0 + 1
  right : rightB r.2.1 r.2.2.1 = true
theorem getD_set_ne {l : List Int} {c d : Nat} {x : Int} (h : c ≠ d) : (l.set c x).getD d 0 = l.getD d 0 := by
  simp [List.getD, List.getElem?_set_ne h]
theorem takeN_ok : ∀ (k : Nat) {g f : List Int}, rightB g f = true → (takeN k g f).1 = 0 → TakeOk k g f (takeN k g f)
  | 0, g, f, h, _ => ⟨rfl, by simp [takeN], rfl, fun _ _ => rfl, by simp [takeN], h⟩
  | k + 1, g, f, h, h0 => by
    by_cases h1 : (takeP g f).1 = 0
    · by_cases h2 : (takeN k (takeP g f).2.1 (takeP g f).2.2.1).1 = 0
      · rw [takeN_s h1 h2]
        have h3 : ∃ c, f.getLast? = some c ∧ g.getD c.toNat 0 ≠ 1073741824 := by
          unfold takeP at h1
          rw [if_pos h] at h1
          split at h1
          · cases h1
          · rename_i c hc
            split at h1
            · cases h1
            · exact ⟨c, hc, by assumption⟩
        obtain ⟨c, hc, hcg⟩ := h3
        obtain ⟨e, c0, c1, cn, hr⟩ := takeP_ok h hc hcg
        have ih := takeN_ok k (g := (takeP g f).2.1) (f := (takeP g f).2.2.1) (by rw [e]; exact hr) h2
        rw [e] at ih ⊢
        simp only at ih ⊢
        have hf := dropLast_last hc
        have hct : ((c.toNat : Nat) : Int) = c := by omega
        have hnl : c ∉ (takeN k (g.set c.toNat (g.getD c.toNat 0 + 1)) f.dropLast).2.2.2.map (·.1) := fun hm => cn (by rw [ih.free]; simp only [List.mem_append, List.mem_reverse]; exact .inr hm)
        refine ⟨by rw [List.length_cons, ih.len], ?_, by rw [ih.gens, List.length_set], fun d hd => ?_, fun x hx => ?_, ih.right⟩
        · simp only [List.map_cons, List.reverse_cons]
          rw [← List.append_assoc, ← ih.free]; exact hf
        · simp only [List.map_cons, List.mem_cons, not_or] at hd
          rw [ih.same d hd.2, getD_set_ne (by omega)]
        · rcases List.mem_cons.1 hx with rfl | hx
          · refine ⟨c0, c1, ?_, rfl⟩
            have := ih.same c.toNat (by rw [hct]; exact hnl)
            rw [this, getD_set (by omega)]
          · obtain ⟨a, b, p, q⟩ := ih.cell x hx
            rw [List.length_set] at b
            refine ⟨a, b, p, ?_⟩
            have : x.1 ≠ c := fun e => by
              have q : x.1 ∈ (takeN k (g.set c.toNat (g.getD c.toNat 0 + 1)) f.dropLast).2.2.2.map (·.1) := List.mem_map_of_mem hx
              rw [e] at q
              exact hnl q
            rw [q, getD_set_ne (by omega)]
      · rw [takeN_l h1 h2] at h0; exact absurd h0 h2
    · rw [takeN_f h1] at h0; exact absurd h0 h1
def toH (l : List Hd) (j : Int) : Hd := l.getD j.toNat (0, 0)
def nodeK (l : List Hd) (t t2 : List Int) (t3 : List (List Int)) (k : Nat) : Nd := (t.getD k 0, (t2.getD k 0, (t3.getD k []).map (toH l)))
def wrK (l : List Hd) (t t2 : List Int) (t3 : List (List Int)) (ns : List Nd) : Nat → List Nd
  | 0 => ns
  | k + 1 => (wrK l t t2 t3 ns k).set (l.getD k (0, 0)).1.toNat (nodeK l t t2 t3 k)
theorem wrK_len (l : List Hd) (t t2 : List Int) (t3 : List (List Int)) (ns : List Nd) : ∀ k, (wrK l t t2 t3 ns k).length = ns.length
  | 0 => rfl
  | k + 1 => by rw [wrK, List.length_set, wrK_len l t t2 t3 ns k]
theorem toH_of {l : List Hd} {j : Int} (h0 : 0 ≤ j) (h1 : j < l.length) : nthI l j = some (toH l j) := by
  obtain ⟨x, hx, hn⟩ := nth_ex h0 h1
  rw [hn]; simp [toH, List.getD, hx]
/-- rows of places -/
def RowsR (n : Nat) (t3 : List (List Int)) : Prop := t3.length = n ∧ ∀ row ∈ t3, row.length ≤ 8 ∧ ∀ j ∈ row, 0 ≤ j ∧ j < n
theorem link_range {hs : List Int} {i h : Nat} (hn : 0 < hs.length) : 0 ≤ linkOf hs i h ∧ linkOf hs i h < hs.length := by
  unfold linkOf
  have := Nat.mod_lt (i + dist hs i h) hn
  omega
theorem tower_rows {t t2 : List Int} {t3 : List (List Int)} (h : TowerR t t2 t3) : t2.length = t.length ∧ RowsR t.length t3 ∧ t.length ≤ 1000 ∧ t ≠ [] ∧ t.Nodup := by
  obtain ⟨⟨h1, h2, h3, h4⟩, rfl⟩ := h
  refine ⟨h2, ⟨by simp [nextOf, h2], fun row hrow => ⟨next_len h4 hrow, fun j hj => ?_⟩⟩, h3.1, h1, h3.2.2⟩
  have h0 : 0 < t2.length := by rw [h2]; exact List.length_pos_iff.2 h1
  simp only [nextOf, List.mem_map, List.mem_range] at hrow
  obtain ⟨i, _, rfl⟩ := hrow
  simp only [linksOf, List.mem_map] at hj
  obtain ⟨q, _, rfl⟩ := hj
  rw [← h2]; exact link_range h0
theorem put2_loop (N : Nat) (v45 v46 : Int) (t t2 : List Int) (t3 : List (List Int)) (v5 v52 : Int) (p p2 : List Int) (l : List Hd) (nodes : List Nd) (a b x x2 : Int) (row : List Int) (hr : row.length ≤ 8) (hj : ∀ j ∈ row, 0 ≤ j ∧ j < l.length) : ∀ (k i m : Nat) (acc : List Hd), i + k = row.length → k < m → acc.length ≤ i →
    l_store_Put_2 N m (v45, v46, row, (row.length : Int), (i : Int), t, t2, t3, v5, v52, p, p2, l, nodes, a, b, x, x2, acc) = some (v45, v46, t, t2, t3, v5, v52, p, p2, l, nodes, a, b, x, x2, acc ++ (row.drop i).map (toH l))
  | k, i, 0, acc, h1, h2, _ => by omega
  | 0, i, m + 1, acc, h1, h2, _ => by rw [l_store_Put_2_s, cd, if_neg (by omega), List.drop_eq_nil_of_le (by omega), List.map_nil, List.append_nil]
  | k + 1, i, m + 1, acc, h1, h2, h3 => by
    obtain ⟨j, hj'⟩ := get_at (xs := row) (i := i) (by omega)
    obtain ⟨j0, j1⟩ := hj j (List.mem_of_getElem? hj')
    rw [l_store_Put_2_s, cd, if_pos (by omega), nth_of hj', ob, toH_of j0 j1, ob, ob, app_of (by omega) (by simp; omega), ob, w64n (by omega), put2_loop N v45 v46 t t2 t3 v5 v52 p p2 l nodes a b x x2 row hr hj k (i + 1) m _ (by omega) (by omega) (by simp; omega), drop_at hj', List.map_cons, List.append_assoc]
    rfl
theorem put1_loop (N : Nat) (hN : Fu ≤ N) (t t2 : List Int) (t3 : List (List Int)) (v5 v52 : Int) (p p2 : List Int) (l : List Hd) (ns : List Nd) (h2l : t2.length = t.length) (hrows : RowsR t.length t3) (hn : t.length ≤ 1000) (hll : l.length = t.length) (hc : ∀ h ∈ l, 0 ≤ h.1 ∧ h.1 < ns.length) : ∀ (k i m : Nat), i + k = t.length → k < m →
    l_store_Put_1 N m ((t.length : Int), (i : Int), t, t2, t3, v5, v52, p, p2, l, wrK l t t2 t3 ns i) = some (v5, v52, p, p2, l, wrK l t t2 t3 ns t.length)
  | k, i, 0, h1, h2 => by omega
  | 0, i, m + 1, h1, h2 => by
    obtain rfl : i = t.length := by omega
    rw [l_store_Put_1_s, cd, if_neg (by omega)]
  | k + 1, i, m + 1, h1, h2 => by
    obtain ⟨x, hx⟩ := get_at (xs := t) (i := i) (by omega)
    obtain ⟨y, hy⟩ := get_at (xs := t2) (i := i) (by omega)
    obtain ⟨row, hrow⟩ := get_at (xs := t3) (i := i) (by rw [hrows.1]; omega)
    obtain ⟨h, hh⟩ := get_at (xs := l) (i := i) (by omega)
    obtain ⟨r8, rj⟩ := hrows.2 row (List.mem_of_getElem? hrow)
    obtain ⟨c0, c1⟩ := hc h (List.mem_of_getElem? hh)
    obtain ⟨z, hz⟩ := nget (ns := wrK l t t2 t3 ns i) (h := h) c0 (by rw [wrK_len]; exact c1)
    rw [l_store_Put_1_s, cd, if_pos (by omega), nth_of hh, ob, ob, nth_of hx, ob, nth_of hy, ob, nth_of hrow, ob, show ((0 : Int) = ((0 : Nat) : Int)) from rfl, put2_loop N _ _ t t2 t3 v5 v52 p p2 l _ _ _ _ _ row r8 (fun j hj => by rw [hll]; exact rj j hj) row.length 0 N [] (by omega) (by have := Fu_eq; omega) (by simp), ob]
    simp only [List.drop_zero, List.nil_append]
    rw [hz, ob, ob, w64n (by omega)]
    have e : (wrK l t t2 t3 ns i).set h.1.toNat (x, (y, row.map (toH l))) = wrK l t t2 t3 ns (i + 1) := by
      rw [wrK, nodeK]; simp [List.getD, hh, hx, hy, hrow]
    rw [e]
    exact put1_loop N hN t t2 t3 v5 v52 p p2 l ns h2l hrows hn hll hc k (i + 1) m (by omega) (by omega)
open Classical in
noncomputable def putS (g f : List Int) (ns : List Nd) (t t2 : List Int) (t3 : List (List Int)) : Int × List Int × List Int × List Nd × Int × Int :=
  if rightS g f ns = false then (1, g, f, ns, 0, 0) else if ¬ TowerR t t2 t3 then (1, g, f, ns, 0, 0) else
  if (takeN t.length g f).1 ≠ 0 then ((takeN t.length g f).1, g, f, ns, 0, 0)
  else (0, (takeN t.length g f).2.1, (takeN t.length g f).2.2.1, wrK (takeN t.length g f).2.2.2 t t2 t3 ns t.length, toH (takeN t.length g f).2.2.2 0)
theorem put_eq (N : Nat) (hN : Fu + 10 ≤ N) (g f : List Int) (hg : g.length ≤ 9223372036854775807) (hf : f.length ≤ 9223372036854775807) (ns : List Nd) (hl : LN ns) (t t2 : List Int) (t3 : List (List Int)) (h1 : t.length ≤ 9223372036854775807) (h2 : t2.length ≤ 9223372036854775807) :
    m_store_Put N (g, f, ns, t, t2, t3) = some (putS g f ns t t2 t3) := by
  obtain ⟨N, rfl⟩ : ∃ n, N = n + 1 := ⟨N - 1, by omega⟩
  rw [m_store_Put_eq, sright_eq N (by omega) g f hg hf ns hl, ob]
  unfold putS
  cases hr : rightS g f ns with
  | false => simp
  | true =>
    rw [Bool.not_true, cond_false, tright_eq N (by omega) t t2 t3 h1 h2, ob, if_neg (by simp)]
    by_cases ht : TowerR t t2 t3
    · obtain ⟨e2, hrows, h1000, hne, hnd⟩ := tower_rows ht
      obtain ⟨r, hr1, hr2, hr3⟩ := taken_neq N (by omega) t.length h1000 g f hg hf
      rw [cdn, if_pos ht, hr1, ob, cdn, if_neg (show ¬ ¬ TowerR t t2 t3 from fun q => q ht)]
      by_cases h0 : r.1 = 0
      · rw [if_pos h0, if_neg (by rw [← hr2]; exact fun q => q h0)]
        have e := hr3 h0
        have ok := takeN_ok t.length (rightS_iff.1 hr).1 (by rw [← hr2]; exact h0)
        have hlen := (rightS_iff.1 hr).2.1
        obtain ⟨g1, f1, _⟩ := right_len (rightS_iff.1 hr).1
        rw [nclone_eq N (by omega) ns (by omega), ob, e, ok.len, show ((0 : Int) = ((0 : Nat) : Int)) from rfl]
        have hL := put1_loop N (by omega) t t2 t3 0 0 (takeN t.length g f).2.1 (takeN t.length g f).2.2.1 (takeN t.length g f).2.2.2 ns e2 hrows h1000 ok.len (fun h hh => by
          obtain ⟨a, b, _⟩ := ok.cell h hh; exact ⟨a, by omega⟩) t.length 0 N (by omega) (by have := Fu_eq; omega)
        rw [show wrK (takeN t.length g f).2.2.2 t t2 t3 ns 0 = ns from rfl] at hL
        rw [show ((0 : Int) = ((0 : Nat) : Int)) from rfl] at hL
        rw [hL, ob]
        have hp : 0 < t.length := List.length_pos_iff.2 hne
        rw [toH_of (l := (takeN t.length g f).2.2.2) (j := ((0 : Nat) : Int)) (by omega) (by rw [ok.len]; omega), ob, ob]
      · rw [if_neg h0, if_pos (by rw [← hr2]; exact h0), hr2]
    · rw [cdn, if_neg ht, if_pos ht]
/-- a new store -/
def smakeS (n : Int) : Int × List Int × List Int × List Nd := if (makeP n).1 = 0 then (0, (makeP n).2.1, (makeP n).2.2, List.replicate n.toNat (0, (0, []))) else ((makeP n).1, [], [], [])
theorem makeP_zero {n : Int} (h : (makeP n).1 = 0) : 1 ≤ n ∧ n ≤ 1000 := by
  unfold makeP at h
  by_cases c : n < 1 ∨ 1000 < n
  · rw [if_pos c] at h; cases h
  · omega
theorem smake_eq (N : Nat) (hN : Fu + 2 ≤ N) (n : Int) : m_store_Make N n = some (smakeS n) := by
  obtain ⟨N, rfl⟩ : ∃ n, N = n + 1 := ⟨N - 1, by omega⟩
  rw [m_store_Make_eq, make_eq N (by omega), ob, cdn]
  unfold smakeS
  by_cases h : (makeP n).1 = 0
  · have := makeP_zero h
    rw [if_pos h, if_pos h, mak_of (by omega) (by omega) (by omega), ob]
  · rw [if_neg h, if_neg h]
theorem rgreat_loop (N : Nat) (most : Int) (t t2 : List Int) (t3 : List (List Int)) (hn : t3.length ≤ 9223372036854775807) : ∀ (k i m : Nat) (n : Int), i + k = t3.length → k < m → ∃ r, l_ref14_Great_1 N m (most, n, (i : Int), t, t2, t3) = some r
  | k, i, 0, n, h1, h2 => by omega
  | 0, i, m + 1, n, h1, h2 => by
    rw [l_ref14_Great_1_s, cd, if_neg (by omega)]; exact ⟨_, rfl⟩
  | k + 1, i, m + 1, n, h1, h2 => by
    obtain ⟨x, hx⟩ := get_at (xs := t3) (i := i) (by omega)
    rw [l_ref14_Great_1_s, cd, if_pos (by omega), cd]
    by_cases h : n ≤ most
    · rw [if_pos h, nth_of hx, ob, w64n (by omega)]
      exact rgreat_loop N most t t2 t3 hn k (i + 1) m _ (by omega) (by omega)
    · rw [if_neg h]; exact ⟨_, rfl⟩
theorem rgreat_ex (N : Nat) (hN : Fu + 1 ≤ N) (t t2 : List Int) (t3 : List (List Int)) (most : Int) (hn : t3.length ≤ 9223372036854775807) : ∃ b, m_ref14_Great N (t, t2, t3, most) = some b := by
  obtain ⟨N, rfl⟩ : ∃ n, N = n + 1 := ⟨N - 1, by omega⟩
  obtain ⟨r, hr⟩ := rgreat_loop N most t t2 t3 hn t3.length 0 N (IntKind.wrap .i64 ((IntKind.wrap .i64 (((t.length : Nat) : Int) + ((t2.length : Nat) : Int))) + ((t3.length : Nat) : Int))) (by omega) (by have := Fu_eq; omega)
  rw [m_ref14_Great_eq, show ((0 : Int) = ((0 : Nat) : Int)) from rfl, hr, ob]
  exact ⟨_, rfl⟩
end Go.Proofs.Ytdahghkmejnlgaa
end
section
set_option linter.unusedVariables false
set_option linter.unusedSimpArgs false
namespace Go.Proofs.Ytdahghkmejnlgaa
open Go Go.RowKit
/-- turned -/
def rotL {α : Type} (i : Nat) (xs : List α) : List α := xs.drop i ++ xs.take i
theorem rotL_len {α : Type} (i : Nat) (xs : List α) : (rotL i xs).length = xs.length := by
  simp only [rotL, List.length_append, List.length_drop, List.length_take]; omega
theorem rotL_get {α : Type} {xs : List α} {i j : Nat} (hi : i < xs.length) (hj : j < xs.length) : (rotL i xs)[j]? = xs[(i + j) % xs.length]? := by
  unfold rotL
  by_cases h : j < xs.length - i
  · rw [List.getElem?_append_left (by simpa using h), List.getElem?_drop, Nat.mod_eq_of_lt (by omega)]
  · rw [List.getElem?_append_right (by simp; omega), List.length_drop, List.getElem?_take, if_pos (by omega), Nat.mod_eq_sub_mod (by omega), Nat.mod_eq_of_lt (by omega)]
    congr 1; omega
theorem rotL_perm {α : Type} (i : Nat) (xs : List α) : (rotL i xs).Perm xs := by
  have := @List.perm_append_comm α (xs.drop i) (xs.take i)
  rwa [List.take_append_drop] at this
theorem rotL_zero {α : Type} (xs : List α) : rotL 0 xs = xs := by simp [rotL]
theorem rotL_map {α β : Type} {n i : Nat} (l : List α) (F : α → β) (xs : List β) (hl : l.length = n) (hx : xs.length = n) (hi : i < n) (h : ∀ (a : Nat) x, l[a]? = some x → xs[a]? = some (F x)) : (rotL i l).map F = rotL i xs := by
  refine List.ext_getElem? fun j => ?_
  rw [List.getElem?_map]
  by_cases hj : j < n
  · rw [rotL_get (by omega) (by omega), rotL_get (by omega) (by omega), hl, hx]
    obtain ⟨x, hx'⟩ := get_at (xs := l) (i := (i + j) % n) (by rw [hl]; exact Nat.mod_lt _ (by omega))
    rw [hx', h _ _ hx']; rfl
  · rw [List.getElem?_eq_none (by rw [rotL_len]; omega), List.getElem?_eq_none (by rw [rotL_len]; omega)]; rfl
/-- a store holds a tower, at these handles -/
structure Holds (g f : List Int) (ns : List Nd) (t t2 : List Int) (t3 : List (List Int)) (l : List Hd) : Prop where
  tow : TowerR t t2 t3
  len : l.length = t.length
  good : GoodL g f l
  nodup : l.Nodup
  node : ∀ (i : Nat) h, l[i]? = some h → nd ns h = nodeK l t t2 t3 i
theorem tower_get {t t2 : List Int} {t3 : List (List Int)} (h : TowerR t t2 t3) {i : Nat} (hi : i < t.length) : t3.getD i [] = linksOf t2 i := by
  obtain ⟨⟨h1, h2, h3, h4⟩, rfl⟩ := h
  have : i < t2.length := by omega
  simp [nextOf, List.getD, this]
theorem link_zero {hs : List Int} (hh : HighR hs) {i : Nat} (hn : 0 < hs.length) : linkOf hs i 0 = (((i + 1) % hs.length : Nat) : Int) := by
  have h1 := (high_at hh (Nat.mod_lt (i + 1) hn)).1
  have hd : dist hs i 0 = 1 := by
    unfold dist
    obtain ⟨k, hk⟩ : ∃ k, hs.length = k + 1 := ⟨hs.length - 1, by omega⟩
    rw [hk] at h1 ⊢
    rw [srch, if_pos (by simp only [decide_eq_true_eq]; omega)]
  rw [linkOf, hd]
theorem hold_next {g f : List Int} {ns : List Nd} {t t2 : List Int} {t3 : List (List Int)} {l : List Hd} (H : Holds g f ns t t2 t3 l) {i : Nat} {h : Hd} (hh : l[i]? = some h) : l[(i + 1) % t.length]? = some (nx0 ns h) := by
  have hi : i < t.length := by rw [← H.len]; exact (List.getElem?_eq_some_iff.1 hh).1
  obtain ⟨e2, hrows, h1000, hne, hnd⟩ := tower_rows H.tow
  have hi2 : i < t2.length := by omega
  have hh4 := H.tow.1.2.2.2
  have h1 := (high_at hh4 hi2).1
  obtain ⟨k, hk⟩ : ∃ k, (hAt t2 i).toNat = k + 1 := ⟨(hAt t2 i).toNat - 1, by omega⟩
  have e : (linksOf t2 i)[0]? = some (linkOf t2 i 0) := by
    rw [linksOf, hk, List.getElem?_map, List.getElem?_range (by omega)]; rfl
  have hm : (i + 1) % t.length < l.length := by rw [H.len]; exact Nat.mod_lt _ (by omega)
  rw [nx0, H.node i h hh, nodeK, tower_get H.tow hi]
  simp only [List.getD_eq_getElem?_getD, List.getElem?_map, e]
  rw [link_zero hh4 (by omega), e2]
  simp only [Option.map_some, Option.getD_some, toH, Int.toNat_natCast, List.getD_eq_getElem?_getD]
  rw [List.getElem?_eq_getElem hm]; rfl
theorem trip_rot {ns : List Nd} {L : List Hd} (hn : L.Nodup) (hnext : ∀ (j : Nat) h, L[j]? = some h → L[(j + 1) % L.length]? = some (nx0 ns h)) {h0 : Hd} (hz : L[0]? = some h0) : ∀ (d j k : Nat), j + d = L.length → 0 < d → d + 1 ≤ k → ∀ h, L[j]? = some h → trip ns k (L.take j) h = (L, h0)
  | 0, j, k, h1, h2, h3, h, hj => by omega
  | d + 1, j, 0, h1, h2, h3, h, hj => by omega
  | d + 1, j, k + 1, h1, h2, h3, h, hj => by
    have hnm : h ∉ L.take j := fun hm => by
      obtain ⟨a, ha⟩ := List.getElem?_of_mem hm
      have hlt : a < j := by have := (List.getElem?_eq_some_iff.1 ha).1; simp at this; omega
      rw [List.getElem?_take, if_pos hlt] at ha
      have := (List.getElem?_inj (by omega) hn).1 (ha.trans hj.symm)
      omega
    rw [trip, if_neg hnm, ← take_at hj]
    have hx := hnext j h hj
    cases d with
    | zero =>
      rw [show (j + 1) % L.length = 0 by rw [h1]; exact Nat.mod_self _, hz] at hx
      rw [← Option.some.inj hx, List.take_of_length_le (by omega)]
      obtain ⟨k, rfl⟩ : ∃ q, k = q + 1 := ⟨k - 1, by omega⟩
      rw [trip, if_pos (List.mem_of_getElem? hz)]
    | succ d =>
      rw [Nat.mod_eq_of_lt (by omega)] at hx
      exact trip_rot hn hnext hz (d + 1) (j + 1) k (by omega) (by omega) (by omega) _ hx
theorem plI_rot {l : List Hd} (hn : l.Nodup) {i q : Nat} (hi : i < l.length) {h : Hd} (hq : l[q]? = some h) : plI (rotL i l) h = (((q + (l.length - i)) % l.length : Nat) : Int) := by
  have hql : q < l.length := (List.getElem?_eq_some_iff.1 hq).1
  have hm : (q + (l.length - i)) % l.length < l.length := Nat.mod_lt _ (by omega)
  have e : (rotL i l)[(q + (l.length - i)) % l.length]? = some h := by
    rw [rotL_get hi hm, Nat.add_mod_mod, show i + (q + (l.length - i)) = q + l.length by omega, Nat.add_mod_right, Nat.mod_eq_of_lt hql, hq]
  unfold plI
  rw [if_pos (List.mem_of_getElem? e), ixH_at ((rotL_perm i l).nodup_iff.2 hn) e]
theorem hAt_rot {hs : List Int} {i j : Nat} (hi : i < hs.length) (hj : j < hs.length) : hAt (rotL i hs) j = hAt hs ((i + j) % hs.length) := by
  simp only [hAt, List.getD_eq_getElem?_getD]
  rw [rotL_get hi hj]
theorem dist_rot {hs : List Int} {i j h : Nat} (hi : i < hs.length) : dist (rotL i hs) j h = dist hs ((i + j) % hs.length) h := by
  unfold dist
  rw [rotL_len]
  congr 1
  funext d
  have e : hAt (rotL i hs) ((j + d) % hs.length) = hAt hs (((i + j) % hs.length + d) % hs.length) := by
    rw [hAt_rot hi (Nat.mod_lt _ (by omega)), Nat.add_mod_mod, Nat.mod_add_mod]
    congr 2; omega
  rw [e]
theorem links_rot {hs : List Int} {i j : Nat} (hi : i < hs.length) (hj : j < hs.length) : (linksOf hs ((i + j) % hs.length)).map (fun q => (((q.toNat + (hs.length - i)) % hs.length : Nat) : Int)) = linksOf (rotL i hs) j := by
  unfold linksOf
  rw [hAt_rot hi hj, List.map_map]
  refine List.map_congr_left fun h _ => ?_
  simp only [Function.comp, linkOf, Int.toNat_natCast, dist_rot hi, rotL_len]
  congr 1
  rw [Nat.mod_add_mod, show (i + j) % hs.length + dist hs ((i + j) % hs.length) h + (hs.length - i) = (i + j) % hs.length + (dist hs ((i + j) % hs.length) h + (hs.length - i)) by omega, Nat.mod_add_mod, show i + j + (dist hs ((i + j) % hs.length) h + (hs.length - i)) = j + dist hs ((i + j) % hs.length) h + hs.length by omega, Nat.add_mod_right]
theorem towR_rot {t t2 : List Int} (h : TowR t t2) {i : Nat} : TowR (rotL i t) (rotL i t2) := by
  obtain ⟨h1, h2, ⟨h3, h4, h5⟩, h6⟩ := h
  refine ⟨fun e => h1 ?_, by rw [rotL_len, rotL_len, h2], ⟨by rw [rotL_len]; exact h3, fun x hx => h4 x ((rotL_perm i t).mem_iff.1 hx), (rotL_perm i t).nodup_iff.2 h5⟩, fun x hx => h6 x ((rotL_perm i t2).mem_iff.1 hx)⟩
  have := congrArg List.length e
  rw [rotL_len] at this
  exact List.eq_nil_of_length_eq_zero this
/-- READ, from any of its places -/
theorem hold_read {g f : List Int} {ns : List Nd} {t t2 : List Int} {t3 : List (List Int)} {l : List Hd} (hr : rightS g f ns = true) (H : Holds g f ns t t2 t3 l) {i : Nat} {h : Hd} (hh : l[i]? = some h) :
    readS g f ns h = (0, rotL i t, rotL i t2, nextOf (rotL i t2), rotL i l) := by
  have hi : i < l.length := (List.getElem?_eq_some_iff.1 hh).1
  have hlen := H.len
  obtain ⟨e2, hrows, h1000, hne, hnd⟩ := tower_rows H.tow
  have hgl := good_len H.good H.nodup
  have hL : (rotL i l).Nodup := (rotL_perm i l).nodup_iff.2 H.nodup
  have hz : (rotL i l)[0]? = some h := by rw [rotL_get hi (by omega), Nat.add_zero, Nat.mod_eq_of_lt hi, hh]
  have hnext : ∀ (j : Nat) x, (rotL i l)[j]? = some x → (rotL i l)[(j + 1) % (rotL i l).length]? = some (nx0 ns x) := fun j x hx => by
    have hj : j < l.length := by have := (List.getElem?_eq_some_iff.1 hx).1; rwa [rotL_len] at this
    rw [rotL_get hi hj] at hx
    have := hold_next H hx
    rw [rotL_len, rotL_get hi (Nat.mod_lt _ (by omega)), Nat.add_mod_mod]
    rw [← hlen, Nat.mod_add_mod] at this
    rw [← Nat.add_assoc]; exact this
  have htr : tripOf g ns h = (rotL i l, h) := by
    have := trip_rot hL hnext hz (rotL i l).length 0 (g.length + 1) (by omega) (by rw [rotL_len]; omega) (by rw [rotL_len]; omega) h hz
    simpa [tripOf] using this
  have ht : tokS ns (rotL i l) = rotL i t := rotL_map (n := l.length) l _ t rfl hlen.symm hi fun a x ha => by
    have hal : a < t.length := by rw [← hlen]; exact (List.getElem?_eq_some_iff.1 ha).1
    rw [H.node a x ha, nodeK]; simp [List.getD, List.getElem?_eq_getElem hal]
  have hh2 : hgtS ns (rotL i l) = rotL i t2 := rotL_map (n := l.length) l _ t2 rfl (by omega) hi fun a x ha => by
    have hal : a < t2.length := by rw [e2, ← hlen]; exact (List.getElem?_eq_some_iff.1 ha).1
    rw [H.node a x ha, nodeK]; simp [List.getD, List.getElem?_eq_getElem hal]
  have hx : nxtS ns (rotL i l) (rotL i l) = nextOf (rotL i t2) := by
    refine List.ext_getElem? fun j => ?_
    unfold nxtS nextOf
    rw [List.getElem?_map, List.getElem?_map]
    by_cases hj : j < l.length
    · rw [rotL_get hi hj]
      have hm : (i + j) % l.length < l.length := Nat.mod_lt _ (by omega)
      obtain ⟨x, hx⟩ := get_at hm
      rw [hx, List.getElem?_range (by rw [rotL_len]; omega)]
      simp only [Option.map_some]
      rw [H.node _ x hx, nodeK, tower_get H.tow (by omega), ← links_rot (by omega) (by omega), List.map_map, show t2.length = l.length by omega]
      congr 1
      refine List.map_congr_left fun q hq => ?_
      simp only [linksOf, List.mem_map] at hq
      obtain ⟨y, _, rfl⟩ := hq
      obtain ⟨l0, l1⟩ := link_range (hs := t2) (i := (i + j) % l.length) (h := y) (by omega)
      have hql : (linkOf t2 ((i + j) % l.length) y).toNat < l.length := by omega
      simp only [Function.comp]
      refine plI_rot H.nodup hi ?_
      rw [toH, List.getD_eq_getElem?_getD, List.getElem?_eq_getElem hql]; rfl
    · rw [List.getElem?_eq_none (by rw [rotL_len]; omega), List.getElem?_eq_none (by rw [List.length_range, rotL_len]; omega)]; rfl
  have hT : towS ns (rotL i l) := by
    rw [towS_iff, ht, hh2, hx]
    exact ⟨towR_rot H.tow.1, rfl⟩
  unfold readS
  rw [if_neg (by simp [hr]), if_neg (by have := H.good h (List.mem_of_getElem? hh); simp [this]), htr, if_pos ⟨rfl, hT⟩]
  simp only [ht, hh2, hx]
end Go.Proofs.Ytdahghkmejnlgaa
end
