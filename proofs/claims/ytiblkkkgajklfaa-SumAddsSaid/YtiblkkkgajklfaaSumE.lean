/- Sums' total, both. -/
import Derived.Test.YtiblkkkgajklfaaSumD
set_option linter.unusedVariables false
set_option linter.unusedSimpArgs false
namespace Go.Proofs.Ytiblkkkgajklfaa
open Go Go.RowKit

def totalOf (t t2 : List Int) (t3 s : List (List Int)) : Int × Int := if SumsR t t2 t3 s then (pre (firstsOf s) (firstsOf s).length, 0) else (0, 1)
theorem weights_zero {t t2 : List Int} {t3 s : List (List Int)} (h : ¬ SumsR t t2 t3 s) : weightsOf t t2 t3 s = [] := if_neg h
theorem weights_pos {t t2 : List Int} {t3 s : List (List Int)} (h : SumsR t t2 t3 s) : weightsOf t t2 t3 s = firstsOf s := if_pos h
/-- one look: what stands in a link, and where it goes -/
theorem look {t t2 : List Int} {t3 s : List (List Int)} (h : SumsR t t2 t3 s) {i l : Nat} (hi : i < t2.length) (hl : (l : Int) < hAt t2 i) :
    (∃ x y : List Int, s[i]? = some x ∧ x[l]? = some (segS (firstsOf s) i (dist t2 i l)) ∧ t3[i]? = some y ∧ y[l]? = some (((i + dist t2 i l) % t2.length : Nat) : Int)) := by
  obtain ⟨h1, h2, h3⟩ := h
  refine ⟨rowS t2 (firstsOf s) i, linksOf t2 i, ?_, rowS_at hl, ?_, map_get _ _ _ (by omega)⟩
  · rw [← sumsOf_at hi, h3]
  · rw [h2.2.1.2]; exact map_get _ _ _ hi
theorem tot2 (N : Nat) (hN : Fu ≤ N) (s : List (List Int)) (head level total v9 : Int) (first : Bool) (t t2 : List Int) (t3 : List (List Int)) :
    l_sum_Total_2 N N (s, head, level, total, v9, first, t, t2, t3) = some (if first = false ∧ v9 = head then .inr total else .inl (s, head, level, total, v9, t, t2, t3)) := by
  obtain ⟨N, rfl⟩ : ∃ n, N = n + 1 := ⟨N - 1, by have := Fu_eq; omega⟩
  rw [l_sum_Total_2_s]
  cases first with
  | true => simp
  | false =>
    rw [cond_false, cdn]
    by_cases e : v9 = head <;> simp [e]
theorem tot1 (N : Nat) (hN : Fu ≤ N) (t t2 : List Int) (t3 s : List (List Int)) (h : SumsR t t2 t3 s) (b : Nat) (L : Nat) (hb : b < t2.length) (hL : hAt t2 b = (L : Int) + 1) (hmax : ∀ i, i < t2.length → hAt t2 i ≤ hAt t2 b) :
    ∀ (f d m : Nat) (first : Bool), d ≤ t2.length → t2.length - d ≤ f → f < m → (first = true ↔ d = 0) → hAt t2 ((b + d) % t2.length) = (L : Int) + 1 →
    l_sum_Total_1 N m (s, (b : Int), (L : Int), segS (firstsOf s) b d, (((b + d) % t2.length : Nat) : Int), first, t, t2, t3) = some (pre (firstsOf s) (firstsOf s).length)
  | f, d, 0, first, h1, h2, h3, h4, h5 => by omega
  | f, d, m + 1, first, h1, h2, h3, h4, h5 => by
    obtain ⟨k1, k2, k3, k4⟩ := sumsR_len h
    have hml := Nat.mod_lt (b + d) k3
    rw [l_sum_Total_1_s, tot2 N hN, ob]
    by_cases c : d = t2.length
    · have e1 : (b + d) % t2.length = b := by rw [c, Nat.add_mod_right, Nat.mod_eq_of_lt hb]
      have e2 : first = false := by
        cases first with
        | false => rfl
        | true => have := h4.1 rfl; omega
      rw [if_pos ⟨e2, by rw [e1]⟩]
      simp only
      rw [c, ← k1, seg_all (by omega)]
    · have e2 : ¬ (first = false ∧ (((b + d) % t2.length : Nat) : Int) = (b : Int)) := fun ⟨e1, e2⟩ => by
        have e3 : d ≠ 0 := fun e => by rw [h4.2 e] at e1; cases e1
        by_cases e4 : b + d < t2.length
        · rw [Nat.mod_eq_of_lt e4] at e2; omega
        · rw [Nat.mod_eq_sub_mod (by omega), Nat.mod_eq_of_lt (by omega)] at e2; omega
      rw [if_neg e2]
      simp only
      obtain ⟨d1, d2, d3, d4⟩ := dist_ok (hs := t2) (h := L) hml (by omega)
      obtain ⟨x, y, g1, g2, g3, g4⟩ := look h (l := L) hml (by omega)
      have hd : d + dist t2 ((b + d) % t2.length) L ≤ t2.length := by
        rcases Nat.lt_or_ge (t2.length - d) (dist t2 ((b + d) % t2.length) L) with e | e
        · have := d4 (t2.length - d) (by omega) e
          rw [Nat.mod_add_mod, show b + d + (t2.length - d) = b + t2.length by omega, Nat.add_mod_right, Nat.mod_eq_of_lt hb] at this
          omega
        · omega
      have hsum := seg_add (firstsOf s) b d (dist t2 ((b + d) % t2.length) L)
      rw [k1] at hsum
      have b1 := seg_le h.2.1.2.2 b (d + dist t2 ((b + d) % t2.length) L)
      have hm2 := hmax _ (Nat.mod_lt ((b + d) % t2.length + dist t2 ((b + d) % t2.length) L) k3)
      rw [nth_of g1, ob, nth_of g2, ob, nth_of g3, ob, nth_of g4, ob, ← hsum, w64 (by omega) (by omega)]
      rw [Nat.mod_add_mod, Nat.add_assoc] at d1 hm2 ⊢
      refine tot1 N hN t t2 t3 s h b L hb hL hmax (f - 1) (d + dist t2 ((b + d) % t2.length) L) m false hd (by omega) (by omega) ⟨(fun e => by cases e), (fun e => by omega)⟩ (by omega)
theorem total_eq (N : Nat) (hN : Fu + 10 ≤ N) (t t2 : List Int) (t3 s : List (List Int)) (h1 : t.length ≤ 9223372036854775807) (h2 : t2.length ≤ 9223372036854775807) (h3 : s.length ≤ 100000) : m_sum_Total N (t, t2, t3, s) = some (totalOf t t2 t3 s) := by
  obtain ⟨N, rfl⟩ : ∃ n, N = n + 1 := ⟨N - 1, by omega⟩
  unfold totalOf
  rw [m_sum_Total_eq, weights_eq N (by omega) t t2 t3 s h1 h2 h3, ob, cd]
  by_cases c : ¬ SumsR t t2 t3 s
  · rw [weights_zero c, if_pos (show ((([] : List Int).length : Nat) : Int) = 0 from rfl), if_neg c]
  have c := Decidable.not_not.1 c
  obtain ⟨k1, k2, k3, k4⟩ := sumsR_len c
  obtain ⟨a, b, e1, e2, e3, e4⟩ := head_ex N (by omega) t2 (by omega) k3
  have hb := high_at c.2.1.2.1.1.2.2.2 e3.lt
  have hx := hAt_get e3.lt
  obtain ⟨L, hL⟩ : ∃ L : Nat, hAt t2 b = (L : Int) + 1 := ⟨(hAt t2 b - 1).toNat, by omega⟩
  have hh : headOf t t2 t3 = (b : Int) := by rw [headOf, if_pos c.2.1.2.1, headN_of e3]
  have := tot1 N (by omega) t t2 t3 s c b L e3.lt hL e3.le t2.length 0 N true (by omega) (by omega) (by have := Fu_eq; omega) (by simp) (by rw [Nat.add_zero, Nat.mod_eq_of_lt e3.lt, hL])
  rw [Nat.add_zero, Nat.mod_eq_of_lt e3.lt, show segS (firstsOf s) b 0 = 0 from rfl] at this
  rw [weights_pos c, if_neg (by omega), head_eq N (by omega) t t2 t3 h1 h2, ob, hh, nth_of hx, ob, hL, show (L : Int) + 1 - 1 = (L : Int) by omega, w64 (by omega) (by omega), this, ob, if_pos c]
theorem rtot1 (N : Nat) (w : List Int) (hw : OddR w) (hm : w.length ≤ 1000) : ∀ (k i m : Nat), i + k = w.length → k < m → l_ref16_Total_1 N m (pre w i, (i : Int), w) = some (pre w w.length)
  | k, i, 0, h1, h2 => by omega
  | 0, i, m + 1, h1, h2 => by
    rw [l_ref16_Total_1_s, cd, if_neg (by omega)]
    have : i = w.length := by omega
    rw [this]
  | k + 1, i, m + 1, h1, h2 => by
    have hx := hAt_get (hs := w) (j := i) (by omega)
    have b1 := pre_le hw i
    have b2 := odd_at hw i
    rw [l_ref16_Total_1_s, cd, if_pos (by omega), nth_of hx, ob, ob, w64n (by omega), w64 (x := pre w i + hAt w i) (by omega) (by omega)]
    exact rtot1 N w hw hm k (i + 1) m (by omega) (by omega)
theorem rtotal_eq (N : Nat) (hN : Fu + 10 ≤ N) (t t2 : List Int) (t3 s : List (List Int)) (h1 : t.length ≤ 9223372036854775807) (h2 : t2.length ≤ 9223372036854775807) (h3 : s.length ≤ 100000) : m_ref16_Total N (t, t2, t3, s) = some (totalOf t t2 t3 s) := by
  obtain ⟨N, rfl⟩ : ∃ n, N = n + 1 := ⟨N - 1, by omega⟩
  unfold totalOf
  rw [m_ref16_Total_eq, rweights_eq N (by omega) t t2 t3 s h1 h2 h3, ob, cd]
  by_cases c : ¬ SumsR t t2 t3 s
  · rw [weights_zero c, if_pos (show ((([] : List Int).length : Nat) : Int) = 0 from rfl), if_neg c]
  have c := Decidable.not_not.1 c
  obtain ⟨k1, k2, k3, k4⟩ := sumsR_len c
  have := rtot1 N (firstsOf s) c.2.1.2.2 (by omega) (firstsOf s).length 0 N (by omega) (by have := Fu_eq; omega)
  rw [show pre (firstsOf s) 0 = 0 from rfl, show (((0 : Nat) : Int) = 0) from rfl] at this
  rw [weights_pos c, if_neg (by omega), this, ob, if_pos c]
end Go.Proofs.Ytiblkkkgajklfaa
