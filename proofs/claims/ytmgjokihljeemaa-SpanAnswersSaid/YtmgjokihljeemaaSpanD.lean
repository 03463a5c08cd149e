/- SpanAnswers, SpanContracts: what the laws compute is true. -/
import Derived.Test.YtmgjokihljeemaaTourAll
import Derived.Test.YtmgjokihljeemaaSpanAl
set_option linter.unusedVariables false
set_option linter.unusedSimpArgs false
namespace Go.Proofs.Ytmgjokihljeemaa
open Go Go.RowKit

theorem not_right {N : Nat} (hN : Fu + 13 ≤ N) {f : Int} {rs : List (List Int)} (hl : rs.length ≤ 9223372036854775807) (hls : ∀ r ∈ rs, r.length ≤ 9223372036854775807) (hno : ¬ (0 ≤ f ∧ RightF f.toNat rs)) (l : List (Int × Int)) :
    m_span_Contract N (f, rs, l) = some (1, []) ∧ m_span_Choose N (f, rs, l) = some (1, []) ∧ m_ref20_Choose N (f, rs, l) = some (1, []) ∧ m_ref20_Contract N (f, rs, l) = some (1, []) := by
  obtain ⟨N, rfl⟩ : ∃ M, N = M + 3 := ⟨N - 3, by omega⟩
  have t1 : ∀ {M : Nat}, Fu + 7 ≤ M → m_tour_Right M (f, rs) = some false := fun {M} hM => by
    obtain ⟨b, hb, hb2⟩ := tright_eq hM f hl hls
    cases b with
    | true => exact absurd (hb2.1 rfl) hno
    | false => exact hb
  have t2 : ∀ {M : Nat}, Fu + 8 ≤ M → m_ref18_Right M (f, rs) = some false := fun {M} hM => by
    obtain ⟨b, hb, hb2⟩ := rright_eq hM f hl hls
    cases b with
    | true => exact absurd (hb2.1 rfl) hno
    | false => exact hb
  have c1 : ∀ {M : Nat}, Fu + 8 ≤ M → m_span_Contract M (f, rs, l) = some (1, []) := fun {M} hM => by
    obtain ⟨M, rfl⟩ : ∃ K, M = K + 1 := ⟨M - 1, by omega⟩
    rw [m_span_Contract_eq, t1 (by omega)]; rfl
  have lk : ∀ {M : Nat}, Fu + 10 ≤ M → m_ref19_Links M (f, rs, l) = some (1, f, rs, []) := fun {M} hM => by
    obtain ⟨M, rfl⟩ : ∃ K, M = K + 2 := ⟨M - 2, by omega⟩
    rw [m_ref19_Links_eq, m_ref19_there_eq, t2 (by omega)]; rfl
  refine ⟨c1 (by omega), ?_, ?_, ?_⟩
  · rw [m_span_Choose_eq, c1 (by omega)]; rfl
  · rw [m_ref20_Choose_eq, lk (by omega)]; rfl
  · rw [m_ref20_Contract_eq, lk (by omega)]; rfl
theorem edN_I' (l : List (Nat × Nat)) : (l.map edI).map edN = l := by
  rw [List.map_map]
  exact (List.map_congr_left fun e _ => by simp [edN, edI]).trans (List.map_id l)
theorem inE_chosen' {k : Nat} {l : List (Nat × Nat)} (h : EdOk k l) : ∀ e ∈ l.map edI, InE (k : Int) e := fun e he => by
  obtain ⟨x, hx, rfl⟩ := List.mem_map.1 he
  have := h x hx
  exact ⟨⟨by simp [edI], by simp [edI]; omega⟩, by simp [edI], by simp [edI]; omega⟩
theorem spanAnswers_eq (N : Nat) (hN : Fu + 19 ≤ N) (f : Int) (rs : List (List Int)) (l : List (Int × Int)) (n : Int) (hl : rs.length ≤ 9223372036854775807) (hls : ∀ r ∈ rs, r.length ≤ 9223372036854775807) : m_law20_SpanAnswers N (f, rs, l, n) = some true := by
  obtain ⟨N, rfl⟩ : ∃ M, N = M + 1 := ⟨N - 1, by omega⟩
  rw [m_law20_SpanAnswers_eq, alive20 (by omega), ob]
  simp only [Bool.not_true, cond_false]
  obtain ⟨b, hb⟩ := rgreat_eq (N := N) (by omega) f 80 hl
  rw [hb, ob]
  cases b with
  | true => rfl
  | false =>
  simp only [cond_false, cd]
  by_cases q : (15 : Int) < ((l.length : Nat) : Int)
  · rw [if_pos q]
  rw [if_neg q]
  have hlen : l.length ≤ 15 := by omega
  have hsp : (if askC n l = 0 then spanI l else []).length ≤ 1000 := by
    split
    · have : ∀ l p : List (Nat × Nat), (chosenFrom p l).length ≤ l.length := fun l => by
        induction l with
        | nil => intro p; exact Nat.le_refl _
        | cons e l ih =>
          intro p
          have := ih (p ++ [e])
          rw [chosenFrom]
          split
          · simp; omega
          · simp; omega
      have h9 := this (l.map edN) []
      simp [spanI, chosen] at h9 ⊢
      omega
    · simp
  have hcl : (if askC n l = 0 then clsI n l else []).length ≤ 1000 := by
    rcases askC_cases n l with ⟨h, _⟩ | ⟨h, _⟩ | ⟨h, h2, h3⟩
    · rw [h]; simp
    · rw [h]; simp
    · rw [h]; simp [clsI]; omega
  -- what comes behind forests
  have tail : ∀ (c3 c4 : Int × List Bool) (c5 c6 : Int × List (Int × Int)), c3 = c4 → c5 = c6 → c3.2.length ≤ 100000 → c5.2.length ≤ 100000 →
      (obind (m_span_Classes N (n, l)) fun z7 => obind (m_ref20_Classes N (n, l)) fun z8 => obind (m_span_Spanning N (n, l)) fun z9 => obind (m_ref20_Spanning N (n, l)) fun z10 => obind (m_span_Count N (n, l)) fun z11 => obind (m_ref20_Count N (n, l)) fun z12 =>
        obind (m_ref19_Bools N (c3.2, c4.2)) fun z13 => cond z13 (if c3.1 = c4.1 then obind (m_ref11_Same N (c5.2, c6.2)) fun z14 => cond z14 (if c5.1 = c6.1 then obind (m_ref01_Ints N (z7.2, z8.2)) fun z15 => cond z15 (if z7.1 = z8.1 then obind (m_ref11_Same N (z9.2, z10.2)) fun z16 => cond z16 (if z9.1 = z10.1 then (if z11.1 = z12.1 then some (decide (z11.2 = z12.2)) else some false) else some false) (some false) else some false) (some false) else some false) (some false) else some false) (some false)) = some true := by
    rintro c3 _ c5 _ rfl rfl l3 l5
    rw [classes_eq (by omega) n l (by omega), ob, rclasses_eq (by omega) n l (by omega), ob, spanning_eq (by omega) n l (by omega), ob, rspanning_eq (by omega) n l (by omega), ob, count_eq (by omega) n l (by omega), ob, rcount_eq (by omega) n l (by omega), ob]
    rw [rbools_eq (by omega) _ _ (by omega), ob, redges_eq (by omega) _ _ (by omega)]
    simp only [decide_true, cond_true, if_true, ob]
    rw [ints_eq N (by omega) _ _ (by omega), ob, redges_eq (by omega) _ _ (by omega)]
    simp only [decide_true, cond_true, if_true, ob]
  by_cases hR : 0 ≤ f ∧ RightF f.toNat rs
  · obtain ⟨k, rfl⟩ : ∃ k : Nat, f = k := ⟨f.toNat, by omega⟩
    have h := hR.2
    rw [Int.toNat_natCast] at h
    rw [schoose_eq (by omega) h l (by omega), ob, rchoose_eq (by omega) h l (by omega), ob, scontract_eq (by omega) h l (by omega), ob, rcontract_eq (by omega) h l (by omega), ob]
    refine tail _ _ _ _ rfl rfl ?_ ?_
    · simp only
      split
      · have : ∀ (l : List (Nat × Nat)) (rs : List (List Int)), (boolsL k rs l).length = l.length := fun l => by
          induction l with
          | nil => intro rs; rfl
          | cons e l ih => intro rs; rw [boolsL, List.length_cons, List.length_cons, ih]
        rw [this]; simp; omega
      · simp
    · simp only
      split
      · simp [conN]; omega
      · simp
  · obtain ⟨n1, n2, n3, n4⟩ := not_right (N := N) (by omega) hl hls hR l
    rw [n2, ob, n3, ob, n1, ob, n4, ob]
    exact tail _ _ _ _ rfl rfl (by simp) (by simp)
theorem boolsL_len {n : Nat} : ∀ (l : List (Nat × Nat)) (rs : List (List Int)), (boolsL n rs l).length = l.length
  | [], rs => rfl
  | e :: l, rs => by rw [boolsL, List.length_cons, List.length_cons, boolsL_len l]
theorem spanContracts_eq (N : Nat) (hN : Fu + 19 ≤ N) (f : Int) (rs : List (List Int)) (l : List (Int × Int)) (hl : rs.length ≤ 9223372036854775807) (hls : ∀ r ∈ rs, r.length ≤ 9223372036854775807) : m_law20_SpanContracts N (f, rs, l) = some true := by
  obtain ⟨N, rfl⟩ : ∃ M, N = M + 1 := ⟨N - 1, by omega⟩
  rw [m_law20_SpanContracts_eq, alive20 (by omega), ob]
  simp only [Bool.not_true, cond_false]
  obtain ⟨b, hb⟩ := rgreat_eq (N := N) (by omega) f 80 hl
  rw [hb, ob]
  cases b with
  | true => rfl
  | false =>
  simp only [cond_false, cd]
  by_cases q : (15 : Int) < ((l.length : Nat) : Int)
  · rw [if_pos q]
  rw [if_neg q]
  have hlen : l.length ≤ 15 := by omega
  by_cases hR : 0 ≤ f ∧ RightF f.toNat rs
  rotate_left
  · obtain ⟨n1, n2, n3, n4⟩ := not_right (N := N) (by omega) hl hls hR l
    rw [n1, ob, n2, ob]
    rfl
  obtain ⟨k, rfl⟩ : ∃ k : Nat, f = k := ⟨f.toNat, by omega⟩
  have h := hR.2
  rw [Int.toNat_natCast] at h
  have hlo := h.lo
  have hhi := h.hi
  rw [scontract_eq (by omega) h l (by omega), ob, schoose_eq (by omega) h l (by omega), ob]
  rcases askC_cases (k : Int) l with ⟨c, c2⟩ | ⟨c, _⟩ | ⟨c, c2, c3⟩
  · omega
  · rw [c]; rfl
  · have hE := edOk_of (n := (k : Int)) (by omega) c3
    rw [Int.toNat_natCast] at hE
    have hC := con_ok h hE
    have hin := inE_chosen' hC
    rw [c]
    simp only [if_true, decide_true, Bool.not_true, cond_false]
    rw [rmake_eq (by omega), if_neg (show ¬ ((k : Int) < 1 ∨ 64 < (k : Int)) by omega), ob, Int.toNat_natCast, schoose_eq (by omega) (singles_right hlo hhi) _ (by simp [conN]; omega), ob]
    have hc0 : askC (k : Int) ((conN rs (l.map edN)).map edI) = 0 := by rw [askC_in hlo hhi, if_pos hin]
    rw [hc0]
    simp only [if_true, cond_true, decide_true]
    have e1 : boolsL k (singles k) (((conN rs (l.map edN)).map edI).map edN) = boolsL k rs (l.map edN) := by
      rw [edN_I', singles_bools hlo hhi hC]
      rw [bools_LC h hE (c := fun x => (fun y => y) (lvN rs x)) (fun x _ => rfl), bools_comp (fun y => y) (lvN rs)]
      exact (bools_CF (conN rs (l.map edN)) []).symm
    rw [e1, rbools_eq (by omega) _ _ (by rw [boolsL_len]; simp; omega), ob]
    simp [conN]
end Go.Proofs.Ytmgjokihljeemaa
