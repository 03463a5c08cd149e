/- SpanFew, SpanMore: what the laws compute is true. -/
import Derived.Test.YtmgjokihljeemaaSpanB
import Derived.Test.YtmgjokihljeemaaSpanAl
import Derived.Test.YtmgjokihljeemaaAo1
set_option linter.unusedVariables false
set_option linter.unusedSimpArgs false
namespace Go.Proofs.Ytmgjokihljeemaa
open Go Go.RowKit

theorem size12 {n : Int} (h0 : 0 ≤ n) (h1 : n ≤ 255) : ∃ k : Nat, IntKind.wrap .i64 ((1 : Int) + (Int.tmod (IntKind.wrap .i64 n) (12 : Int))) = (k : Int) ∧ 1 ≤ k ∧ k ≤ 12 := by
  obtain ⟨m, rfl⟩ : ∃ m : Nat, n = m := ⟨n.toNat, by omega⟩
  refine ⟨1 + m % 12, ?_, by omega, by omega⟩
  rw [w64 (x := (m : Int)) (by omega) (by omega), show (12 : Int) = ((12 : Nat) : Int) from rfl, tmod_nat, w64 (by omega) (by omega)]
  omega
theorem clsI_len (k : Nat) (l : List (Int × Int)) : (clsI (k : Int) l).length = k := by simp [clsI]
theorem edN_I (l : List (Nat × Nat)) : (l.map edI).map edN = l := by
  rw [List.map_map]
  exact (List.map_congr_left fun e _ => by simp [edN, edI]).trans (List.map_id l)
theorem inE_chosen {k : Nat} {l : List (Nat × Nat)} (h : EdOk k l) : ∀ e ∈ l.map edI, InE (k : Int) e := fun e he => by
  obtain ⟨x, hx, rfl⟩ := List.mem_map.1 he
  have := h x hx
  exact ⟨⟨by simp [edI], by simp [edI]; omega⟩, by simp [edI], by simp [edI]; omega⟩
theorem askC_of {k : Nat} (h1 : 1 ≤ k) (h2 : k ≤ 64) {l : List (Int × Int)} (h : ∀ e ∈ l, InE (k : Int) e) : askC (k : Int) l = 0 := by
  unfold askC
  rw [if_neg (by omega), if_pos h]
theorem askC_not {k : Nat} (h1 : 1 ≤ k) (h2 : k ≤ 64) {l : List (Int × Int)} (h : ¬ ∀ e ∈ l, InE (k : Int) e) : askC (k : Int) l = 10 := by
  unfold askC
  rw [if_neg (by omega), if_neg h]
theorem spanFew_eq (N : Nat) (hN : Fu + 9 ≤ N) (n : Int) (l : List (Int × Int)) (k : Int) (h0 : 0 ≤ n) (h1 : n ≤ 255) (hk0 : 0 ≤ k) (hk1 : k ≤ 255) : m_law20_SpanFew N (n, l, k) = some true := by
  obtain ⟨N, rfl⟩ : ∃ M, N = M + 1 := ⟨N - 1, by omega⟩
  rw [m_law20_SpanFew_eq, alive20 (by omega), ob]
  simp only [Bool.not_true, cond_false]
  obtain ⟨z, hz, z1, z2⟩ := size12 h0 h1
  rw [hz, cd]
  by_cases q : (30 : Int) < ((l.length : Nat) : Int)
  · rw [if_pos q]
  rw [if_neg q, spanning_eq (by omega) _ _ (by omega), ob]
  by_cases hl : ∀ e ∈ l, InE (z : Int) e
  rotate_left
  · rw [askC_not z1 (by omega) hl]; rfl
  have ha := askC_of z1 (by omega) hl
  have hE := edOk_of (n := (z : Int)) (by omega) hl
  simp only [Int.toNat_natCast] at hE
  have hS : EdOk z (chosen (l.map edN)) := fun e he => hE e (chosen_sub _ e he)
  have hs := inE_chosen hS
  have has := askC_of z1 (by omega) hs
  have hlen : (spanI l).length = (chosen (l.map edN)).length := by simp [spanI]
  have hcn := cnt_chosen _ hE
  have hchn : (chosen (l.map edN)).length ≤ z := by omega
  have hspl : (spanI l).length ≤ z := by omega
  have e2 : clo (((chosen (l.map edN)).map edI).map edN) = clo (l.map edN) := by rw [edN_I, clo_chosen]
  simp only [ha, if_true, decide_true, Bool.not_true, cond_false]
  rw [classes_eq (by omega) _ _ (by omega), ob, classes_eq (by omega) _ _ (by omega), ob, count_eq (by omega) _ _ (by omega), ob]
  have has' : askC (z : Int) (spanI l) = 0 := has
  simp only [ha, has', if_true, decide_true, Bool.not_true, cond_false]
  have e3 : clsI (z : Int) (spanI l) = clsI (z : Int) l := by unfold clsI spanI; rw [e2]
  rw [e3, ints_eq N (by omega) _ _ (by rw [clsI_len]; omega), ob]
  simp only [decide_true, Bool.not_true, cond_false, Int.toNat_natCast]
  rw [w64 (by omega) (by omega), hlen, cdn, if_pos (by omega), cd]
  by_cases c0 : (chosen (l.map edN)).length = 0
  · rw [if_pos (by omega)]
  rw [if_neg (by omega)]
  obtain ⟨kk, rfl⟩ : ∃ m : Nat, k = m := ⟨k.toNat, by omega⟩
  rw [w64 (by omega) (by omega), rem_of (by omega), ob, tmod_nat]
  have hi : kk % (chosen (l.map edN)).length < (chosen (l.map edN)).length := Nat.mod_lt _ (by omega)
  generalize hii : kk % (chosen (l.map edN)).length = i at hi
  rw [sub_take (by omega) (by rw [hlen]; omega), ob, Int.toNat_natCast, app_of (by omega) (by simp; omega), ob, w64n (by omega), ← hlen, sub_drop (by omega) (by omega), ob, Int.toNat_natCast, app_of (by omega) (by simp; omega), ob]
  have e4 : ([] ++ (spanI l).take i ++ (spanI l).drop (i + 1)) = ((chosen (l.map edN)).take i ++ (chosen (l.map edN)).drop (i + 1)).map edI := by
    simp [spanI, List.map_take, List.map_drop]
  have hS2 : EdOk z ((chosen (l.map edN)).take i ++ (chosen (l.map edN)).drop (i + 1)) := fun e he => hS e (by
    rcases List.mem_append.1 he with he | he
    · exact List.mem_of_mem_take he
    · exact List.mem_of_mem_drop he)
  rw [e4, count_eq (by omega) _ _ (by simp; omega), ob]
  simp only [askC_of z1 (by omega) (inE_chosen hS2), if_true, decide_true, cond_true, edN_I, Int.toNat_natCast]
  rw [few_out hE hi, w64 (by omega) (by omega)]
  simp
theorem at_last {α : Type} (a : List α) (x : α) : (a ++ [x])[a.length]? = some x := by simp
theorem spanMore_eq (N : Nat) (hN : Fu + 9 ≤ N) (n : Int) (l : List (Int × Int)) (x y : Int) (h0 : 0 ≤ n) (h1 : n ≤ 255) : m_law20_SpanMore N (n, l, x, y) = some true := by
  obtain ⟨N, rfl⟩ : ∃ M, N = M + 1 := ⟨N - 1, by omega⟩
  rw [m_law20_SpanMore_eq, alive20 (by omega), ob]
  simp only [Bool.not_true, cond_false]
  obtain ⟨z, hz, z1, z2⟩ := size12 h0 h1
  rw [hz, cd]
  by_cases q : (30 : Int) < ((l.length : Nat) : Int)
  · rw [if_pos q]
  have ha1 : appI (16 : Nat) ([] : List (Int × Int)) l = some l := by rw [app_of (by omega) (by simp; omega)]; rfl
  rw [if_neg q, count_eq (by omega) _ _ (by omega), ob]
  simp only [ha1, ob]
  rw [app_of (xs := l) (by omega) (by simp; omega), app_of (xs := [(x, y)]) (by omega) (by simp; omega)]
  simp only [ob]
  rw [count_eq (by omega) _ _ (by simp; omega), ob, classes_eq (by omega) _ _ (by omega), ob, spanning_eq (by omega) _ _ (by simp; omega), ob, spanning_eq (by omega) _ _ (by simp; omega), ob]
  by_cases hl : ∀ e ∈ l ++ [(x, y)], InE (z : Int) e
  rotate_left
  · have hl2 : ¬ ∀ e ∈ [(x, y)] ++ l, InE (z : Int) e := fun h => hl fun e he => h e (by simp at he ⊢; exact he.symm)
    simp only [askC_not z1 (by omega) hl, askC_not z1 (by omega) hl2]
    rfl
  have hl2 : ∀ e ∈ [(x, y)] ++ l, InE (z : Int) e := fun e he => hl e (by simp at he ⊢; exact he.symm)
  have hl1 : ∀ e ∈ l, InE (z : Int) e := fun e he => hl e (by simp [he])
  have hxy : InE (z : Int) (x, y) := hl (x, y) (by simp)
  obtain ⟨⟨x0, x1⟩, y0, y1⟩ := hxy
  simp only at x0 x1 y0 y1
  have hE := edOk_of (n := (z : Int)) (by omega) hl
  simp only [Int.toNat_natCast, List.map_append, List.map_cons, List.map_nil] at hE
  have hcn := cnt_clo_snoc hE
  have hml := more_len hE
  have hc1 := cnt_chosen _ (EdOk.app.1 hE).1
  simp only [askC_of z1 (by omega) hl, askC_of z1 (by omega) hl1, askC_of z1 (by omega) hl2, if_true, decide_true, Bool.not_true, cond_false, clsI_len]
  have L1 : (spanI (l ++ [(x, y)])).length = (chosen (l.map edN ++ [edN (x, y)])).length := by simp [spanI]
  have L2 : (spanI ([(x, y)] ++ l)).length = (chosen (edN (x, y) :: l.map edN)).length := by simp [spanI]
  -- whether it joins
  have hgx : (clsI (z : Int) l)[x.toNat]? = some ((clo (l.map edN) x.toNat : Nat) : Int) := by
    unfold clsI
    rw [List.getElem?_map, List.getElem?_range (by omega)]; rfl
  have hgy : (clsI (z : Int) l)[y.toNat]? = some ((clo (l.map edN) y.toNat : Nat) : Int) := by
    unfold clsI
    rw [List.getElem?_map, List.getElem?_range (by omega)]; rfl
  have hloop : ∀ a b : Int, l_law20_SpanMore_1 N N ((z : Int), a, b, (0 : Int), x, y, clsI (z : Int) l, spanI (l ++ [(x, y)]), spanI ([(x, y)] ++ l)) = some ((z : Int), a, b, (if joinsB (l.map edN) (edN (x, y)) then (1 : Int) else 0), x, y, spanI (l ++ [(x, y)]), spanI ([(x, y)] ++ l)) := fun a b => by
    obtain ⟨M, rfl⟩ : ∃ M, N = M + 1 := ⟨N - 1, by omega⟩
    rw [l_law20_SpanMore_1_s]
    simp only [nth_at hgx (show x = (x.toNat : Int) by omega), nth_at hgy (show y = (y.toNat : Int) by omega), ob, cdn]
    unfold joinsB
    by_cases c : clo (l.map edN) x.toNat = clo (l.map edN) y.toNat
    · rw [if_pos (by omega)]
      simp [edN, c]
    · rw [if_neg (by omega)]
      simp [edN, c]
  rw [hloop, ob]
  simp only [L1, L2, List.map_append, List.map_cons, List.map_nil, Int.toNat_natCast]
  have hle := (cnt_ge (n := z) _ (EdOk.app.1 hE).1)
  simp only [cd]
  by_cases c : joinsB (l.map edN) (edN (x, y)) = true
  · rw [if_pos c] at hcn ⊢
    rw [w64 (by omega) (by omega), w64 (by omega) (by omega), if_pos (by omega), if_pos (by omega), if_pos (by omega), if_neg (by omega)]
    have e1 : chosen (l.map edN ++ [edN (x, y)]) = chosen (l.map edN) ++ [edN (x, y)] := by rw [chosen_snoc, if_pos c]
    have e2 : spanI (l ++ [(x, y)]) = (chosen (l.map edN)).map edI ++ [(x, y)] := by
      unfold spanI
      rw [List.map_append, List.map_cons, List.map_nil, e1, List.map_append, List.map_cons, List.map_nil, edI_N (n := (z : Int)) ⟨⟨x0, x1⟩, y0, y1⟩]
    have hlast : (spanI (l ++ [(x, y)]))[(chosen (l.map edN)).length]? = some (x, y) := by
      rw [e2]
      have := at_last ((chosen (l.map edN)).map edI) (x, y)
      rwa [List.length_map] at this
    rw [e1]
    have h9 : (IntKind.wrap .i64 ((((chosen (l.map edN) ++ [edN (x, y)]).length : Nat) : Int) - (1 : Int))) = (((chosen (l.map edN)).length : Nat) : Int) := by
      rw [List.length_append, w64 (by simp) (by simp; omega)]; simp
    rw [h9]
    simp only [nth_of hlast, ob]
    simp
  · rw [if_neg c] at hcn ⊢
    rw [w64 (by omega) (by omega), w64 (by omega) (by omega), if_pos (by omega), if_pos (by omega), if_pos (by omega), if_pos rfl]
end Go.Proofs.Ytmgjokihljeemaa
