/- The pool's laws: the fixed fact, PoolAnswers, PoolStays: they compute 'true'. -/
import Derived.Test.YtiejnblpmfgpbaaPoolC
set_option linter.unusedVariables false
set_option linter.unusedSimpArgs false
namespace Go.Proofs.Ytiejnblpmfgpbaa
open Go Go.RowKit

theorem pool_alive (N : Nat) (hN : Fu + 5 ≤ N) : m_law02_alive N () = some true := by
  obtain ⟨N, rfl⟩ : ∃ n, N = n + 1 := ⟨N - 1, by omega⟩
  rw [m_law02_alive_eq, make_eq N (by omega), show makeP 2 = (0, [0, 0], [1, 0]) by decide, ob]
  simp only []
  rw [take_eq N (by omega) _ _ (by decide) (by decide), show takeP [0, 0] [1, 0] = (0, [1, 0], [1], 0, 1) by decide, ob]
  simp only []
  rw [take_eq N (by omega) _ _ (by decide) (by decide), show takeP [1, 0] [1] = (0, [1, 1], [], 1, 1) by decide, ob]
  simp only []
  rw [take_eq N (by omega) _ _ (by decide) (by decide), show takeP [1, 1] [] = (2, [1, 1], [], 0, 0) by decide, ob]
  simp only []
  rw [give_eq N (by omega) _ _ _ _ (by decide) (by decide), show giveP [1, 1] [] 0 1 = (0, [1, 1], [0]) by decide, ob]
  simp only []
  rw [take_eq N (by omega) _ _ (by decide) (by decide), show takeP [1, 1] [0] = (0, [2, 1], [], 0, 2) by decide, ob]
  simp only []
  rw [give_eq N (by omega) _ _ _ _ (by decide) (by decide), show giveP [2, 1] [] 0 1 = (3, [2, 1], []) by decide, ob]
  simp only []
  rw [right_eq N (by omega) _ _ (by decide) (by decide), good_eq N (by omega) _ _ _ _ (by decide) (by decide), good_eq N (by omega) _ _ _ _ (by decide) (by decide), taken_eq N (by omega) _ _ (by decide) (by decide), ob, ob, ob, ob,
    ints_eq N (by omega) _ _ (by decide), ob]
  decide
theorem takeP_len (g f : List Int) : (takeP g f).2.1.length = g.length ∧ (takeP g f).2.2.1.length ≤ f.length := by
  unfold takeP
  split
  · split
    · simp
    · split <;> simp
  · simp
theorem giveP_len (g f : List Int) (c x : Int) : (giveP g f c x).2.1.length = g.length ∧ (giveP g f c x).2.2.length ≤ f.length + 1 := by
  unfold giveP
  split
  · split <;> simp
  · simp
theorem makeP_len (n : Int) : (makeP n).2.1.length ≤ 1000 ∧ (makeP n).2.2.length ≤ 1000 := by
  unfold makeP
  split
  · simp
  · simp [upI]; omega
theorem takenL_len (g f : List Int) : (takenL g f).length ≤ g.length := by
  unfold takenL
  split
  · have := List.length_filter_le (fun c => !decide (c ∈ f)) (upI g.length)
    rwa [upI_len] at this
  · simp
theorem poolAnswers (N : Nat) (hN : Fu + 6 ≤ N) (p p2 : List Int) (h h2 n : Int) (l1 : p.length ≤ 9223372036854775807) (l2 : p2.length ≤ 9223372036854775807) : m_law02_PoolAnswers N (p, p2, h, h2, n) = some true := by
  obtain ⟨N, rfl⟩ : ∃ n, N = n + 1 := ⟨N - 1, by omega⟩
  rw [m_law02_PoolAnswers_eq, pool_alive N (by omega), ob]
  simp only [Bool.not_true, cond_false]
  rw [great_eq N (by omega), ob, cd]
  by_cases hg : 300 < p.length ∨ 300 < p2.length
  · rw [if_pos hg]
  rw [if_neg hg]
  obtain ⟨t1, t2⟩ := takeP_len p p2
  obtain ⟨g1, g2⟩ := giveP_len p p2 h h2
  obtain ⟨k1, k2⟩ := makeP_len n
  have k3 := takenL_len p p2
  rw [take_eq N (by omega) _ _ l1 l2, rtake_eq N (by omega) _ _ l1 l2, give_eq N (by omega) _ _ _ _ l1 l2, rgive_eq N (by omega) _ _ _ _ l1 l2, make_eq N (by omega), rmake_eq N (by omega), ob, ob, ob, ob, ob, ob,
    same_eq N (by omega) _ _ _ _ (by omega) (by omega), same_eq N (by omega) _ _ _ _ (by omega) (by omega), same_eq N (by omega) _ _ _ _ (by omega) (by omega), right_eq N (by omega) _ _ l1 l2, rright_eq N (by omega) _ _ l1 l2,
    good_eq N (by omega) _ _ _ _ l1 l2, rgood_eq N (by omega) _ _ _ _ l1 l2, taken_eq N (by omega) _ _ l1 l2, rtaken_eq N (by omega) _ _ l1 l2, ob, ob, ob, ob, ob, ob, ob, ob, ob, ints_eq N (by omega) _ _ (by omega), ob]
  simp
theorem goodB_iff {gens free : List Int} {c g : Int} : goodB gens free c g = true ↔ rightB gens free = true ∧ 0 ≤ c ∧ c < gens.length ∧ gens.getD c.toNat 0 = g ∧ c ∉ free := by
  simp [goodB, Bool.and_eq_true]
theorem rightB_iff {gens free : List Int} : rightB gens free = true ↔ GensR gens ∧ FreeR gens.length free := by simp [rightB]
theorem getD_set {l : List Int} {c : Nat} {x : Int} (h : c < l.length) : (l.set c x).getD c 0 = x := getD_at (by rw [List.getElem?_set_self h])
theorem mem_set {l : List Int} {c : Nat} {x y : Int} (h : y ∈ l.set c x) : y = x ∨ y ∈ l := by
  rcases List.mem_or_eq_of_mem_set h with h | h
  · exact .inr h
  · exact .inl h
theorem dropLast_last {l : List Int} {c : Int} (h : l.getLast? = some c) : l = l.dropLast ++ [c] := by
  have hne : l ≠ [] := by rintro rfl; simp at h
  rw [List.getLast?_eq_some_getLast hne] at h
  have := List.dropLast_concat_getLast hne
  rw [Option.some.inj h] at this
  exact this.symm
/-- a cell that can be taken -/
theorem takeP_ok {gens free : List Int} (h : rightB gens free = true) {c : Int} (hc : free.getLast? = some c) (hg : gens.getD c.toNat 0 ≠ 1073741824) :
    takeP gens free = (0, gens.set c.toNat (gens.getD c.toNat 0 + 1), free.dropLast, c, gens.getD c.toNat 0 + 1) ∧ 0 ≤ c ∧ c < gens.length ∧ c ∉ free.dropLast ∧ rightB (gens.set c.toNat (gens.getD c.toNat 0 + 1)) free.dropLast = true := by
  have hm : c ∈ free := List.mem_of_getLast? hc
  obtain ⟨c0, c1⟩ := right_cell h hm
  have hh := rightB_iff.1 h
  have hf := dropLast_last hc
  have hn := hh.2.2
  rw [hf, List.nodup_append] at hn
  obtain ⟨g, hg1, hg2⟩ := nth_ex c0 c1
  have hgr := right_gen h hg1
  rw [getD_at hg1] at hg ⊢
  refine ⟨?_, c0, c1, fun hm => hn.2.2 c hm c (by simp) rfl, rightB_iff.2 ⟨⟨?_, ?_, ?_⟩, ?_, hn.1⟩⟩
  · unfold takeP
    rw [if_pos h, hc]
    simp only [getD_at hg1]
    rw [if_neg hg]
  · intro e
    have := congrArg List.length e
    simp only [List.length_set, List.length_nil] at this
    omega
  · rw [List.length_set]; exact hh.1.2.1
  · intro y hy
    rcases mem_set hy with rfl | hy
    · omega
    · exact hh.1.2.2 y hy
  · intro f hf'
    rw [List.length_set]
    exact hh.2.1 f (List.dropLast_subset free hf')
theorem giveP_ok {gens free : List Int} {c g : Int} (h : goodB gens free c g = true) : giveP gens free c g = (0, gens, free ++ [c]) ∧ rightB gens (free ++ [c]) = true := by
  have hh := goodB_iff.1 h
  have hr := rightB_iff.1 hh.1
  refine ⟨by unfold giveP; rw [if_pos hh.1, if_pos h], rightB_iff.2 ⟨hr.1, fun f hf => ?_, ?_⟩⟩
  · rcases List.mem_append.1 hf with hf | hf
    · exact hr.2.1 f hf
    · simp at hf; subst hf; exact ⟨hh.2.1, hh.2.2.1⟩
  · rw [List.nodup_append]
    refine ⟨hr.2.2, by simp, fun a ha b hb => ?_⟩
    simp at hb; subst hb
    rintro rfl; exact hh.2.2.2.2 ha
theorem poolStays (N : Nat) (hN : Fu + 6 ≤ N) (p p2 : List Int) (h h2 : Int) (hr1 : -9223372036854775808 ≤ h2) (hr2 : h2 ≤ 9223372036854775807) (l1 : p.length ≤ 9223372036854775807) (l2 : p2.length ≤ 9223372036854775807) : m_law02_PoolStays N (p, p2, h, h2) = some true := by
  obtain ⟨N, rfl⟩ : ∃ n, N = n + 1 := ⟨N - 1, by omega⟩
  rw [m_law02_PoolStays_eq, pool_alive N (by omega), ob]
  simp only [Bool.not_true, cond_false]
  rw [great_eq N (by omega), ob, cd]
  by_cases hg : 300 < p.length ∨ 300 < p2.length
  · rw [if_pos hg]
  rw [if_neg hg]
  obtain ⟨t1, t2⟩ := takeP_len p p2
  obtain ⟨g1, g2⟩ := giveP_len p p2 h h2
  rw [app_of (by omega) (by simp; omega), ob, app_of (by omega) (by simp; omega), ob]
  simp only [List.nil_append]
  rw [take_eq N (by omega) _ _ l1 l2, ob, give_eq N (by omega) _ _ _ _ l1 l2, ob, same_eq N (by omega) _ _ _ _ (by omega) (by omega), ob, cdn, if_pos ⟨rfl, rfl⟩]
  -- the first half
  have first : ∃ M, N = M + 1 := ⟨N - 1, by omega⟩
  obtain ⟨M, rfl⟩ := first
  rw [l_law02_PoolStays_1_s, cd]
  have goal2 : (cond (decide ((giveP p p2 h h2).1 = (0 : Int)))
           (obind (m_pool_Take (M + 1) ((giveP p p2 h h2).2.1, (giveP p p2 h h2).2.2)) fun z11 =>
            cond (decide (z11.1 = (2 : Int)))
             (some true)
             (cond (decide (z11.1 = (0 : Int)))
               (cond (decide (z11.2.2.2.1 = h))
                 (cond (decide (z11.2.2.2.2 = (IntKind.wrap .i64 (h2 + (1 : Int)))))
                   (obind (m_ref01_Ints (M + 1) (z11.2.2.1, p2)) fun z12 =>
                    some z12)
                   (some false))
                 (some false))
               (some false)))
           (obind (m_ref02_Same (M + 1) ((giveP p p2 h h2).2.1, ((giveP p p2 h h2).2.2, (p, p2)))) fun z13 =>
            some z13)) = some true := by
    rw [cd]
    by_cases hgd : goodB p p2 h h2 = true
    · obtain ⟨e1, e2⟩ := giveP_ok hgd
      have hh := goodB_iff.1 hgd
      rw [e1, if_pos rfl]
      simp only []
      rw [take_eq (M + 1) (by omega) _ _ l1 (by simp; omega), ob]
      by_cases hx : p.getD h.toNat 0 = 1073741824
      · have : takeP p (p2 ++ [h]) = (2, p, p2 ++ [h], 0, 0) := by
          unfold takeP
          rw [if_pos e2, List.getLast?_append]
          simp only [List.getLast?_singleton, Option.or_some, Option.some_or]
          rw [if_pos hx]
        rw [this]; simp
      · obtain ⟨e3, -⟩ := takeP_ok e2 (c := h) (by simp) hx
        obtain ⟨g, hg1, hg2⟩ := nth_ex hh.2.1 hh.2.2.1
        have hgr := right_gen hh.1 hg1
        have hgx := getD_at hg1
        rw [hh.2.2.2.1] at hgx hx
        rw [e3, hh.2.2.2.1, List.dropLast_concat]
        simp only []
        rw [ints_eq (M + 1) (by omega) _ _ l2, ob, w64 (by omega) (by omega)]
        simp
    · have e1 : (giveP p p2 h h2).2 = (p, p2) ∧ (giveP p p2 h h2).1 ≠ 0 := by
        unfold giveP
        by_cases hr : rightB p p2 = true
        · rw [if_pos hr, if_neg hgd]; simp
        · rw [if_neg hr]; simp
      rw [if_neg e1.2, e1.1, same_eq (M + 1) (by omega) _ _ _ _ l1 l2, ob]
      simp
  by_cases he : (takeP p p2).1 = 0
  · rw [if_pos he]
    have hr : rightB p p2 = true := by
      by_cases h : rightB p p2 = true
      · exact h
      · unfold takeP at he; rw [if_neg h] at he; simp at he
    obtain ⟨c, hc⟩ : ∃ c, p2.getLast? = some c := by
      cases hc : p2.getLast? with
      | some c => exact ⟨c, rfl⟩
      | none => unfold takeP at he; rw [if_pos hr, hc] at he; simp at he
    have hx : p.getD c.toNat 0 ≠ 1073741824 := by
      intro hx
      unfold takeP at he; rw [if_pos hr, hc] at he
      simp only [] at he
      rw [if_pos hx] at he; simp at he
    obtain ⟨e3, c0, c1, c2, c3⟩ := takeP_ok hr hc hx
    have hgd : goodB (p.set c.toNat (p.getD c.toNat 0 + 1)) p2.dropLast c (p.getD c.toNat 0 + 1) = true :=
      goodB_iff.2 ⟨c3, c0, by rw [List.length_set]; exact c1, getD_set (by omega), c2⟩
    obtain ⟨e4, e5⟩ := giveP_ok hgd
    rw [← dropLast_last hc] at e4 e5
    have n1 : goodB (p.set c.toNat (p.getD c.toNat 0 + 1)) p2 c (p.getD c.toNat 0 + 1) = false := by
      rw [Bool.eq_false_iff]; intro hh; exact (goodB_iff.1 hh).2.2.2.2 (List.mem_of_getLast? hc)
    have n2 : goodB p p2 c (p.getD c.toNat 0 + 1) = false := by
      rw [Bool.eq_false_iff]; intro hh; exact (goodB_iff.1 hh).2.2.2.2 (List.mem_of_getLast? hc)
    rw [e3]
    simp only []
    rw [give_eq (M + 1) (by omega) _ _ _ _ (by rw [List.length_set]; exact l1) (by rw [List.length_dropLast]; omega), ob, e4]
    simp only [decide_true, Bool.not_true, cond_false]
    rw [ints_eq (M + 1) (by omega) _ _ l2, ob]
    simp only [decide_true, Bool.not_true, cond_false]
    rw [good_eq (M + 1) (by omega) _ _ _ _ (by rw [List.length_set]; exact l1) l2, ob, n1, good_eq (M + 1) (by omega) _ _ _ _ l1 l2, ob, n2]
    simp only [cond_false, ob]
    exact goal2
  · rw [if_neg he, ob]
    exact goal2
end Go.Proofs.Ytiejnblpmfgpbaa
