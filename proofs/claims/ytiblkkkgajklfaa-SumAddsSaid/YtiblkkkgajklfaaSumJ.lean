/- The laws SumParts, SumLast and SumAdds, told plainly. -/
import Derived.Test.YtiblkkkgajklfaaSumI
set_option linter.unusedVariables false
set_option linter.unusedSimpArgs false
namespace Go.Proofs.Ytiblkkkgajklfaa
open Go Go.RowKit

theorem ints_self' (N : Nat) (hN : Fu + 1 ≤ N) (a : List Int) (h : a.length ≤ 100000) : m_ref01_Ints N (a, a) = some true := by
  rw [ints_eq N hN a a (by omega)]; simp
theorem between_of {t t2 : List Int} {t3 : List (List Int)} {w : List Int} (h : SumR t t2 t3 w) {a b : Nat} (ha : a < w.length) (hb : b < w.length) :
    betweenOf t t2 t3 (sumsOf t2 w) (a : Int) (b : Int) = (segS w a (dOf w.length (a : Int) (b : Int)), ((lookD t2 w.length a (dOf w.length (a : Int) (b : Int)) : Nat) : Int), 0) := by
  have hl := towerR_len h.2.1
  have hw : t2.length = w.length := by have := h.1; omega
  rw [betweenOf, if_pos (sumsR_of h), hw, if_pos ⟨by omega, by omega, by omega, by omega⟩, firsts_sums h, Int.toNat_natCast]
theorem total_of {t t2 : List Int} {t3 : List (List Int)} {w : List Int} (h : SumR t t2 t3 w) : totalOf t t2 t3 (sumsOf t2 w) = (pre w w.length, 0) := by
  rw [totalOf, if_pos (sumsR_of h), firsts_sums h]
theorem sumsOf_len (hs w : List Int) : (sumsOf hs w).length = hs.length := by simp [sumsOf]
theorem far_of {n a c : Nat} (ha : a < n) (hc : c < n) (hn : n ≤ 1000) : remI (IntKind.wrap .i64 (IntKind.wrap .i64 ((c : Int) - (a : Int)) + (n : Int))) (n : Int) = some ((dOf n (a : Int) (c : Int) : Nat) : Int) := by
  rw [w64 (x := (c : Int) - (a : Int)) (by omega) (by omega), show (c : Int) - (a : Int) + (n : Int) = ((c + n - a : Nat) : Int) by omega, w64 (by omega) (by omega), rem_of (by omega), tmod_nat]
  rfl
theorem sumParts_eq (N : Nat) (hN : Fu + 12 ≤ N) (t t2 : List Int) (t3 : List (List Int)) (w : List Int) (p q r : Int) (h1 : t.length ≤ 9223372036854775807) (h2 : t2.length ≤ 9223372036854775807) (h3 : t3.length ≤ 9223372036854775807) (hp : 0 ≤ p ∧ p ≤ 255) (hq : 0 ≤ q ∧ q ≤ 255) (hr : 0 ≤ r ∧ r ≤ 255) : m_law16_SumParts N (t, t2, t3, w, p, q, r) = some true := by
  obtain ⟨N, rfl⟩ : ∃ n, N = n + 2 := ⟨N - 2, by omega⟩
  obtain ⟨g, hg⟩ := great_ex (N + 1) (by omega) 200 t t2 t3 h3
  rw [m_law16_SumParts_eq, alive_eq (N + 1) (by omega), ob, Bool.not_true, cond_false, hg, ob]
  cases g with
  | true => rfl
  | false =>
    rw [cond_false, cd]
    by_cases k1 : (200 : Int) < ((w.length : Nat) : Int)
    · rw [if_pos k1]
    rw [if_neg k1, sbuild_eq (N + 1) (by omega) t t2 t3 w h1 h2 (by omega), ob, sumOf]
    by_cases c : ¬ SumR t t2 t3 w
    · rw [if_neg c]; rfl
    have c := Decidable.not_not.1 c
    obtain ⟨l1, l2, l3⟩ := towerR_len c.2.1
    have hwl := c.1
    have hsl := sumsOf_len t2 w
    obtain ⟨p, rfl⟩ : ∃ n : Nat, p = (n : Int) := ⟨p.toNat, by omega⟩
    obtain ⟨q, rfl⟩ : ∃ n : Nat, q = (n : Int) := ⟨q.toNat, by omega⟩
    obtain ⟨r, rfl⟩ : ∃ n : Nat, r = (n : Int) := ⟨r.toNat, by omega⟩
    have hn : 0 < w.length := by omega
    have ha := Nat.mod_lt p hn
    have hb := Nat.mod_lt q hn
    have hc := Nat.mod_lt r hn
    have b1 := between_of c ha hb
    have b2 := between_of c hb ha
    have b3 := between_of c ha ha
    have b4 := between_of c ha hc
    have b5 := between_of c hc hb
    have f1 := far_of ha hc (by omega)
    have f2 := far_of ha hb (by omega)
    have s1 := seg_le c.2.2 (p % w.length) (dOf w.length ((p % w.length : Nat) : Int) ((q % w.length : Nat) : Int))
    have s2 := seg_le c.2.2 (q % w.length) (dOf w.length ((q % w.length : Nat) : Int) ((p % w.length : Nat) : Int))
    have s4 := seg_le c.2.2 (p % w.length) (dOf w.length ((p % w.length : Nat) : Int) ((r % w.length : Nat) : Int))
    have s5 := seg_le c.2.2 (r % w.length) (dOf w.length ((r % w.length : Nat) : Int) ((q % w.length : Nat) : Int))
    have s6 := pre_le c.2.2 w.length
    have d1 := Nat.mod_lt (((q % w.length : Nat) : Int).toNat + w.length - ((p % w.length : Nat) : Int).toNat) hn
    have d2 := Nat.mod_lt (((p % w.length : Nat) : Int).toNat + w.length - ((q % w.length : Nat) : Int).toNat) hn
    have d4 := Nat.mod_lt (((r % w.length : Nat) : Int).toNat + w.length - ((p % w.length : Nat) : Int).toNat) hn
    have d5 := Nat.mod_lt (((q % w.length : Nat) : Int).toNat + w.length - ((r % w.length : Nat) : Int).toNat) hn
    change dOf w.length ((p % w.length : Nat) : Int) ((q % w.length : Nat) : Int) < w.length at d1
    change dOf w.length ((q % w.length : Nat) : Int) ((p % w.length : Nat) : Int) < w.length at d2
    change dOf w.length ((p % w.length : Nat) : Int) ((r % w.length : Nat) : Int) < w.length at d4
    change dOf w.length ((r % w.length : Nat) : Int) ((q % w.length : Nat) : Int) < w.length at d5
    have lk := lookD_le t2 w.length (p % w.length) (dOf w.length ((p % w.length : Nat) : Int) ((q % w.length : Nat) : Int))
    have kr := seg_round ha hb
    have kp := seg_part ha hb hc
    have ks := dOf_self ha
    have kd1 : p % w.length = q % w.length → dOf w.length ((p % w.length : Nat) : Int) ((q % w.length : Nat) : Int) = 0 := fun h => by rw [← h]; exact dOf_self ha
    have kd2 : p % w.length = q % w.length → dOf w.length ((q % w.length : Nat) : Int) ((p % w.length : Nat) : Int) = 0 := fun h => by rw [← h]; exact dOf_self ha
    rw [if_pos c]
    simp only [decide_true, Bool.not_true, cond_false]
    rw [← hwl, w64 (x := (p : Int)) (by omega) (by omega), w64 (x := (q : Int)) (by omega) (by omega), w64 (x := (r : Int)) (by omega) (by omega), rem_of (by omega), tmod_nat, ob, rem_of (by omega), tmod_nat, ob, rem_of (by omega), tmod_nat, ob, total_eq (N + 1) (by omega) t t2 t3 _ h1 h2 (by omega), total_of c, ob,
      between_eq (N + 1) (by omega) t t2 t3 _ _ _ h1 h2 (by omega), b1, ob, between_eq (N + 1) (by omega) t t2 t3 _ _ _ h1 h2 (by omega), b2, ob, between_eq (N + 1) (by omega) t t2 t3 _ _ _ h1 h2 (by omega), b3, ob]
    simp only
    generalize dOf w.length ((p % w.length : Nat) : Int) ((q % w.length : Nat) : Int) = D1 at *
    generalize dOf w.length ((q % w.length : Nat) : Int) ((p % w.length : Nat) : Int) = D2 at *
    generalize dOf w.length ((p % w.length : Nat) : Int) ((r % w.length : Nat) : Int) = D4 at *
    generalize dOf w.length ((r % w.length : Nat) : Int) ((q % w.length : Nat) : Int) = D5 at *
    generalize p % w.length = a at *
    generalize q % w.length = b at *
    generalize r % w.length = e at *
    have hz : segS w a (dOf w.length (a : Int) (a : Int)) = 0 := by rw [ks]; rfl
    have hj : l_law16_SumParts_1 (N + 1) (N + 1) (((w.length : Nat) : Int), (a : Int), (b : Int), (e : Int), pre w w.length, 0, segS w a D1, ((lookD t2 w.length a D1 : Nat) : Int), 0, segS w b D2, 0, segS w a (dOf w.length (a : Int) (a : Int)), 0, t, t2, t3, sumsOf t2 w) = some (.inr (((w.length : Nat) : Int), (a : Int), (b : Int), (e : Int), pre w w.length, segS w a D1, t, t2, t3, sumsOf t2 w)) := by
      rw [l_law16_SumParts_1_s, hz]
      simp only [decide_true, Bool.not_true, cond_false]
      rw [cd, if_neg (by omega), cdn]
      by_cases h : a = b
      · have z1 := kd1 h
        have z2 := kd2 h
        subst h
        subst z1
        subst z2
        rw [if_pos rfl, cd, if_pos rfl, cdn, if_pos (by rw [show segS w a 0 = 0 from rfl]; exact w64 (by omega) (by omega))]
      · rw [if_neg (by omega), cdn, if_pos (by rw [w64 (by omega) (by omega)]; exact kr h), cd, if_neg (by omega)]
    rw [hj, ob]
    simp only
    rw [between_eq (N + 1) (by omega) t t2 t3 _ _ _ h1 h2 (by omega), b4, ob, between_eq (N + 1) (by omega) t t2 t3 _ _ _ h1 h2 (by omega), b5, ob]
    simp only [decide_true, Bool.not_true, cond_false]
    rw [f1, ob, f2, ob, cd]
    by_cases h : D4 ≤ D1
    · rw [if_pos (by omega), w64 (by omega) (by omega), kp, if_pos h, Int.add_zero, decide_eq_true rfl]
    · rw [if_neg (by omega), w64 (by omega) (by omega), w64 (by omega) (by omega), kp, if_neg h, decide_eq_true rfl]
theorem last_loop (N : Nat) (n : Int) (t t2 ps ws : List Int) (t3 c s u : List (List Int)) (hl : ps.length = ws.length) (hm : ps.length ≤ 1000000) : ∀ (k i m : Nat) (w : List Int), PlR w.length ps → i + k = ps.length → k < m →
    l_law16_SumLast_1 N m (n, (i : Int), t, t2, t3, c, ps, ws, s, u, w) = some (n, t, t2, t3, s, u, setAll w (ps.drop i) (ws.drop i))
  | k, i, 0, w, hw, h1, h2 => by omega
  | 0, i, m + 1, w, hw, h1, h2 => by
    rw [l_law16_SumLast_1_s, cd, if_neg (by omega), List.drop_eq_nil_of_le (by omega)]
    simp [setAll]
  | k + 1, i, m + 1, w, hw, h1, h2 => by
    obtain ⟨p, hp⟩ := get_at (xs := ps) (i := i) (by omega)
    obtain ⟨x, hx⟩ := get_at (xs := ws) (i := i) (by omega)
    have hb := hw p (List.mem_of_getElem? hp)
    obtain ⟨y, hy⟩ := get_at (xs := w) (i := p.toNat) (by omega)
    rw [l_law16_SumLast_1_s, cd, if_pos (by omega), nth_of hp, ob, nth_of hx, ob, nth_at hy (by omega), ob, ob, w64n (by omega), last_loop N n t t2 ps ws t3 c s u hl hm k (i + 1) m _ (by rw [List.length_set]; exact hw) (by omega) (by omega), drop_at hp, drop_at hx, setAll]
theorem sumLast_eq (N : Nat) (hN : Fu + 12 ≤ N) (t t2 : List Int) (t3 : List (List Int)) (w : List Int) (cs : List (List Int)) (ps ws : List Int) (h1 : t.length ≤ 9223372036854775807) (h2 : t2.length ≤ 9223372036854775807) (h3 : t3.length ≤ 9223372036854775807) : m_law16_SumLast N (t, t2, t3, w, cs, ps, ws) = some true := by
  obtain ⟨N, rfl⟩ : ∃ n, N = n + 1 := ⟨N - 1, by omega⟩
  obtain ⟨g, hg⟩ := great_ex N (by omega) 200 t t2 t3 h3
  rw [m_law16_SumLast_eq, alive_eq N (by omega), ob, Bool.not_true, cond_false, hg, ob]
  cases g with
  | true => rfl
  | false =>
    rw [cond_false, cd]
    by_cases k1 : (200 : Int) < ((w.length : Nat) : Int)
    · rw [if_pos k1]
    rw [if_neg k1, cd]
    by_cases k2 : (30 : Int) < ((ps.length : Nat) : Int)
    · rw [if_pos k2]
    rw [if_neg k2, cdn]
    by_cases k3 : ¬ ((ws.length : Nat) : Int) = ((ps.length : Nat) : Int)
    · rw [if_neg k3]
    have k3 := Decidable.not_not.1 k3
    have hsl := sumOf_lens t t2 t3 w
    rw [if_pos k3, sbuild_eq N (by omega) t t2 t3 w h1 h2 (by omega), ob, change_eq N (by omega) t t2 t3 _ ps ws h1 h2 (by simp only; omega) (by omega) (by omega), ob]
    by_cases c : ¬ SumR t t2 t3 w
    · have e : sumOf t t2 t3 w = (1, []) := if_neg c
      have hno : ¬ SumsR t t2 t3 [] := fun h => by
        have := (sumsR_len h).1
        have h2 := (sumsR_len h).2.2.1
        simp [firstsOf] at this
        omega
      rw [e, changeOf, if_neg (fun h => hno h.1)]
      rfl
    have c := Decidable.not_not.1 c
    have e : sumOf t t2 t3 w = (0, sumsOf t2 w) := if_pos c
    rw [e]
    simp only [decide_true, Bool.not_true, cond_false]
    by_cases c2 : ¬ (OddR ws ∧ PlR t2.length ps)
    · have e2 : ∃ n, changeOf t t2 t3 (sumsOf t2 w) ps ws = (0, n, []) ∧ n ≠ 0 := by
        unfold changeOf
        split
        · rename_i h
          rw [if_neg (fun h2 => c2 ⟨h.2.2, h2⟩)]
          exact ⟨6, rfl, by decide⟩
        · exact ⟨1, rfl, by decide⟩
      obtain ⟨n, e2, hn⟩ := e2
      rw [e2]
      simp only
      rw [decide_eq_false hn]; rfl
    obtain ⟨c3, c4⟩ := Decidable.not_not.1 c2
    obtain ⟨l1, l2, l3⟩ := towerR_len c.2.1
    have hwl := c.1
    have hu := change_new (ps := ps) (sumsR_of c) c3
    rw [firsts_sums c] at hu
    have hlen := setAll_len ps ws w
    have e2 : changeOf t t2 t3 (sumsOf t2 w) ps ws = (((difS (sumsOf t2 (setAll w ps ws)) (sumsOf t2 w) : Nat) : Int), 0, sumsOf t2 (setAll w ps ws)) := by
      rw [changeOf, if_pos ⟨sumsR_of c, by omega, c3⟩, if_pos c4, firsts_sums c]
    have e3 := last_loop N ((difS (sumsOf t2 (setAll w ps ws)) (sumsOf t2 w) : Nat) : Int) t t2 ps ws t3 cs (sumsOf t2 w) (sumsOf t2 (setAll w ps ws)) (by omega) (by omega) ps.length 0 N w (by rw [show w.length = t2.length by omega]; exact c4) (by omega) (by have := Fu_eq; omega)
    rw [List.drop_zero, List.drop_zero, show ((0 : Nat) : Int) = (0 : Int) from rfl] at e3
    have e4 : changeOf t t2 t3 (sumsOf t2 (setAll w ps ws)) [] [] = (0, 0, sumsOf t2 (setAll w ps ws)) := by
      rw [changeOf, if_pos ⟨sumsR_of hu, rfl, fun x hx => by cases hx⟩, if_pos (show PlR t2.length [] from fun x hx => by cases hx), firsts_sums hu]
      simp only [setAll]
      rw [difS_self]; rfl
    have hls : (sumsOf t2 (setAll w ps ws)).length ≤ 1000 ∧ ∀ x ∈ sumsOf t2 (setAll w ps ws), x.length ≤ 8 := by
      have := sumOf_lens t t2 t3 (setAll w ps ws)
      rwa [sumOf, if_pos hu] at this
    have e5 : sumOf t t2 t3 (setAll w ps ws) = (0, sumsOf t2 (setAll w ps ws)) := if_pos hu
    rw [e2]
    simp only [decide_true, Bool.not_true, cond_false]
    rw [app_of (by omega) (by simp; omega), ob, List.nil_append, e3, ob]
    simp only
    rw [sbuild_eq N (by omega) t t2 t3 _ h1 h2 (by omega), e5, ob, change_eq N (by omega) t t2 t3 _ [] [] h1 h2 (by omega) (by simp) (by simp), e4, ob]
    simp only [decide_true, cond_true]
    rw [lists_same N (by omega) _ hls, ob, cond_true, ob, cond_true, weights_eq N (by omega) t t2 t3 _ h1 h2 (by omega), weights_sums hu, ob, ints_self' N (by omega) _ (by omega), ob, cond_true, cd]
    by_cases c5 : (0 : Int) < ((difS (sumsOf t2 (setAll w ps ws)) (sumsOf t2 w) : Nat) : Int)
    · rw [if_pos c5]
    · have := difS_zero _ _ (alike_sums c.2.1.1.2.2.2 (setAll w ps ws) w) (by omega)
      rw [if_neg c5, ← this, lists_same N (by omega) _ hls, ob]
def SmallR (l : List Int) : Prop := ∀ x ∈ l, -536870912 ≤ x ∧ x ≤ 536870912
theorem small_at {w : List Int} (hw : SmallR w) (j : Nat) : -536870912 ≤ hAt w j ∧ hAt w j ≤ 536870912 := by
  by_cases h : j < w.length
  · exact hw _ (List.mem_of_getElem? (hAt_get h))
  · have : hAt w j = 0 := by simp [hAt, List.getD_eq_getElem?_getD, List.getElem?_eq_none (show w.length ≤ j by omega)]
    omega
theorem adds1 (N : Nat) (v w t t2 : List Int) (t3 : List (List Int)) (hl : w.length = v.length) (hm : v.length ≤ 1000) : ∀ (k i m : Nat), i + k = v.length → k < m → (∀ j, j < i → (-536870912 ≤ hAt v j ∧ hAt v j ≤ 536870912) ∧ -536870912 ≤ hAt w j ∧ hAt w j ≤ 536870912) →
    ∃ r, l_law16_SumAdds_1 N m (v, w, (i : Int), t, t2, t3, (List.range v.length).map fun j => if j < i then hAt v j + hAt w j else 0) = some r ∧ (r = .inr true ∨ (r = .inl (v, w, t, t2, t3, (List.range v.length).map fun j => hAt v j + hAt w j) ∧ ∀ j, j < v.length → (-536870912 ≤ hAt v j ∧ hAt v j ≤ 536870912) ∧ -536870912 ≤ hAt w j ∧ hAt w j ≤ 536870912))
  | k, i, 0, h1, h2, h3 => by omega
  | 0, i, m + 1, h1, h2, h3 => by
    rw [l_law16_SumAdds_1_s, cd, if_neg (by omega)]
    refine ⟨_, rfl, .inr ⟨?_, fun j hj => h3 j (by omega)⟩⟩
    have : ((List.range v.length).map fun j => if j < i then hAt v j + hAt w j else 0) = (List.range v.length).map fun j => hAt v j + hAt w j := List.map_congr_left fun j hj => by
      have := List.mem_range.1 hj
      rw [if_pos (by omega)]
    rw [this]
  | k + 1, i, m + 1, h1, h2, h3 => by
    have hv := hAt_get (hs := v) (j := i) (by omega)
    have hw := hAt_get (hs := w) (j := i) (by omega)
    have hx := map_get v.length i (fun j => if j < i then hAt v j + hAt w j else 0) (by omega)
    rw [l_law16_SumAdds_1_s, cd, if_pos (by omega), nth_of hv, ob, cd]
    by_cases c1 : hAt v i < -536870912
    · rw [if_pos c1]; exact ⟨_, rfl, .inl rfl⟩
    rw [if_neg c1, ob, cd]
    by_cases c2 : 536870912 < hAt v i
    · rw [if_pos c2]; exact ⟨_, rfl, .inl rfl⟩
    rw [if_neg c2, nth_of hw, ob, cd]
    by_cases c3 : hAt w i < -536870912
    · rw [if_pos c3]; exact ⟨_, rfl, .inl rfl⟩
    rw [if_neg c3, ob, cd]
    by_cases c4 : 536870912 < hAt w i
    · rw [if_pos c4]; exact ⟨_, rfl, .inl rfl⟩
    rw [if_neg c4, ob, ob, nth_of hx, ob, ob, w64n (by omega), w64 (x := hAt v i + hAt w i) (by omega) (by omega), Int.toNat_natCast, set_map]
    have : ((List.range v.length).map fun j => if j = i then hAt v i + hAt w i else if j < i then hAt v j + hAt w j else 0) = (List.range v.length).map fun j => if j < i + 1 then hAt v j + hAt w j else 0 := List.map_congr_left fun j hj => by
      by_cases e : j = i
      · subst e
        rw [if_pos rfl, if_pos (by omega)]
      · rw [if_neg e]
        by_cases e2 : j < i
        · rw [if_pos e2, if_pos (by omega)]
        · rw [if_neg e2, if_neg (by omega)]
    rw [this]
    refine adds1 N v w t t2 t3 hl hm k (i + 1) m (by omega) (by omega) fun j hj => ?_
    by_cases e : j = i
    · subst e; exact ⟨⟨by omega, by omega⟩, by omega, by omega⟩
    · exact h3 j (by omega)
theorem zip_map (v w : List Int) (h : w.length = v.length) : ((List.range v.length).map fun j => hAt v j + hAt w j) = List.zipWith (· + ·) v w := by
  refine List.ext_getElem? fun j => ?_
  by_cases hj : j < v.length
  · rw [map_get _ _ _ hj, List.getElem?_zipWith, hAt_get hj, hAt_get (show j < w.length by omega)]
  · rw [List.getElem?_eq_none (by simp; omega), List.getElem?_eq_none (by simp [List.length_zipWith]; omega)]
theorem adds3 (N : Nat) (t t2 : List Int) (t3 a b c : List (List Int)) (i : Nat) (ra rb rc v160 v165 : List Int) (v158 v161 v163 v166 : Int) (v167 : Bool) (ha : a[i]? = some ra) (hb : b[i]? = some rb) (hc : c[i]? = some rc) (l1 : ra.length = rc.length) (l2 : rb.length = rc.length) (hm : rc.length ≤ 8) (hs : ∀ h, h < rc.length → hAt rc h = hAt ra h + hAt rb h) (hw : ∀ h, -4611686018427387904 ≤ hAt rc h ∧ hAt rc h ≤ 4611686018427387904) : ∀ (k h m : Nat), h + k = rc.length → k < m →
    l_law16_SumAdds_3 N m ((i : Int), (h : Int), v158, v160, v161, v163, v165, v166, v167, t, t2, t3, a, b, c) = some (.inl ((i : Int), v158, v160, v161, v163, v165, v166, v167, t, t2, t3, a, b, c))
  | k, h, 0, h1, h2 => by omega
  | 0, h, m + 1, h1, h2 => by
    rw [l_law16_SumAdds_3_s, nth_of hc, ob, ob, cd, if_neg (by omega)]
  | k + 1, h, m + 1, h1, h2 => by
    have e1 := hAt_get (hs := rc) (j := h) (by omega)
    have e2 := hAt_get (hs := ra) (j := h) (by omega)
    have e3 := hAt_get (hs := rb) (j := h) (by omega)
    have e4 := hs h (by omega)
    have e5 := hw h
    rw [l_law16_SumAdds_3_s, nth_of hc, ob, ob, cd, if_pos (by omega), ob, ob, nth_of e1, ob, nth_of ha, ob, ob, nth_of e2, ob, nth_of hb, ob, ob, nth_of e3, ob, w64 (by omega) (by omega), cdn, if_pos e4, w64n (by omega)]
    exact adds3 N t t2 t3 a b c i ra rb rc v160 v165 v158 v161 v163 v166 v167 ha hb hc l1 l2 hm hs hw k (h + 1) m (by omega) (by omega)
theorem adds2 (N : Nat) (hN : Fu ≤ N) (t t2 : List Int) (t3 : List (List Int)) (v w : List Int) (hl : w.length = v.length) (hv : OddR v) (hw : OddR w) (hh : HighR t2) (h1000 : t2.length ≤ 1000) : ∀ (k i m : Nat), i + k = t2.length → k < m →
    l_law16_SumAdds_2 N m ((i : Int), t, t2, t3, sumsOf t2 v, sumsOf t2 w, sumsOf t2 (List.zipWith (· + ·) v w)) = some (.inl (t, t2, t3, sumsOf t2 (List.zipWith (· + ·) v w)))
  | k, i, 0, h1, h2 => by omega
  | 0, i, m + 1, h1, h2 => by
    rw [l_law16_SumAdds_2_s, cd, if_neg (by rw [sumsOf_len]; omega)]
  | k + 1, i, m + 1, h1, h2 => by
    have a1 := sumsOf_at (hs := t2) (w := v) (i := i) (by omega)
    have a2 := sumsOf_at (hs := t2) (w := w) (i := i) (by omega)
    have a3 := sumsOf_at (hs := t2) (w := List.zipWith (· + ·) v w) (i := i) (by omega)
    have r1 := rowS_len t2 v i
    have r2 := rowS_len t2 w i
    have r3 := rowS_len t2 (List.zipWith (· + ·) v w) i
    have hb := high_at hh (j := i) (by omega)
    have e3 := adds3 N t t2 t3 _ _ _ i _ _ _ (rowS t2 w i) (rowS t2 (List.zipWith (· + ·) v w) i) (i : Int) (((rowS t2 w i).length : Nat) : Int) (i : Int) (((rowS t2 (List.zipWith (· + ·) v w) i).length : Nat) : Int) (!(decide ((((rowS t2 w i).length : Nat) : Int) = (((rowS t2 (List.zipWith (· + ·) v w) i).length : Nat) : Int)))) a1 a2 a3 (by omega) (by omega) (by omega)
      (fun h hlt => by
        have g : (h : Int) < hAt t2 i := by omega
        rw [hAt_of (rowS_at (w := v) g), hAt_of (rowS_at (w := w) g), hAt_of (rowS_at g)]
        exact seg_adds v w hl.symm i _)
      (fun h => by
        by_cases g : (h : Int) < hAt t2 i
        · obtain ⟨_, d1, d2, _⟩ := dist_ok (by omega) g
          have s1 := seg_le hv i (dist t2 i h)
          have s2 := seg_le hw i (dist t2 i h)
          rw [hAt_of (rowS_at g), seg_adds v w hl.symm i _]
          omega
        · have : hAt (rowS t2 (List.zipWith (· + ·) v w) i) h = 0 := by simp [hAt, List.getD_eq_getElem?_getD, List.getElem?_eq_none (show (rowS t2 (List.zipWith (· + ·) v w) i).length ≤ h by omega)]
          omega)
      (rowS t2 (List.zipWith (· + ·) v w) i).length 0 N (by omega) (by have := Fu_eq; omega)
    rw [l_law16_SumAdds_2_s, cd, if_pos (by rw [sumsOf_len]; omega), nth_of a1, ob, ob, nth_of a3, ob, ob, cdn, if_pos (by omega), nth_of a2, ob, ob, ob, ob, cdn, if_pos (by omega), show ((0 : Int) = ((0 : Nat) : Int)) from rfl, e3, ob]
    simp only
    rw [w64n (by omega)]
    exact adds2 N hN t t2 t3 v w hl hv hw hh h1000 k (i + 1) m (by omega) (by omega)
theorem sumAdds_eq (N : Nat) (hN : Fu + 12 ≤ N) (t t2 : List Int) (t3 : List (List Int)) (v w : List Int) (h1 : t.length ≤ 9223372036854775807) (h2 : t2.length ≤ 9223372036854775807) (h3 : t3.length ≤ 9223372036854775807) : m_law16_SumAdds N (t, t2, t3, v, w) = some true := by
  obtain ⟨N, rfl⟩ : ∃ n, N = n + 1 := ⟨N - 1, by omega⟩
  obtain ⟨g, hg⟩ := great_ex N (by omega) 200 t t2 t3 h3
  rw [m_law16_SumAdds_eq, alive_eq N (by omega), ob, Bool.not_true, cond_false, hg, ob]
  cases g with
  | true => rfl
  | false =>
    rw [cond_false, cd]
    by_cases k1 : (200 : Int) < ((v.length : Nat) : Int)
    · rw [if_pos k1]
    rw [if_neg k1, cdn]
    by_cases k2 : ¬ ((w.length : Nat) : Int) = ((v.length : Nat) : Int)
    · rw [if_neg k2]
    have k2 := Decidable.not_not.1 k2
    have hl : w.length = v.length := by omega
    obtain ⟨r, e1, hr⟩ := adds1 N v w t t2 t3 hl (by omega) v.length 0 N (by omega) (by have := Fu_eq; omega) (fun j hj => by omega)
    have e0 : ((List.range v.length).map fun j => if j < 0 then hAt v j + hAt w j else 0) = List.replicate v.length 0 := by
      refine List.ext_getElem? fun j => ?_
      rw [List.getElem?_map, List.getElem?_replicate]
      by_cases hj : j < v.length
      · rw [List.getElem?_range hj, if_pos hj]; simp
      · rw [List.getElem?_eq_none (by simp; omega), if_neg hj]; rfl
    rw [e0, show ((0 : Nat) : Int) = (0 : Int) from rfl] at e1
    rw [if_pos k2, mak_of (by omega) (by omega) (by omega), ob, Int.toNat_natCast, e1, ob]
    rcases hr with rfl | ⟨rfl, hs⟩
    · rfl
    rw [zip_map v w hl]
    have hvs : SmallR v := fun x hx => by
      obtain ⟨j, hj⟩ := List.getElem?_of_mem hx
      have := (hs j (List.getElem?_eq_some_iff.1 hj).1).1
      rwa [hAt_of hj] at this
    have hws : SmallR w := fun x hx => by
      obtain ⟨j, hj⟩ := List.getElem?_of_mem hx
      have hj2 := (List.getElem?_eq_some_iff.1 hj).1
      have := (hs j (by omega)).2
      rwa [hAt_of hj] at this
    have ov : OddR v := fun x hx => by have := hvs x hx; omega
    have ow : OddR w := fun x hx => by have := hws x hx; omega
    have oz : OddR (List.zipWith (· + ·) v w) := fun x hx => by
      obtain ⟨j, hj⟩ := List.getElem?_of_mem hx
      have e := hAt_of hj
      rw [hAt_add v w hl.symm] at e
      have s1 := small_at hvs j
      have s2 := small_at hws j
      omega
    have lz : (List.zipWith (· + ·) v w).length = v.length := by simp [List.length_zipWith]; omega
    simp only
    rw [sbuild_eq N (by omega) t t2 t3 v h1 h2 (by omega), ob, sbuild_eq N (by omega) t t2 t3 w h1 h2 (by omega), ob, sbuild_eq N (by omega) t t2 t3 _ h1 h2 (by omega), ob]
    by_cases c : ¬ (v.length = t.length ∧ TowerR t t2 t3)
    · rw [sumOf, sumOf, sumOf, if_neg (fun h => c ⟨h.1, h.2.1⟩), if_neg (fun h => c ⟨by rw [← hl]; exact h.1, h.2.1⟩), if_neg (fun h => c ⟨by rw [← lz]; exact h.1, h.2.1⟩)]
      simp [w64]
    obtain ⟨c1, c2⟩ := Decidable.not_not.1 c
    obtain ⟨l1, l2, l3⟩ := towerR_len c2
    have e2 := adds2 N (by omega) t t2 t3 v w hl ov ow c2.1.2.2.2 (by omega) t2.length 0 N (by omega) (by have := Fu_eq; omega)
    rw [show ((0 : Nat) : Int) = (0 : Int) from rfl] at e2
    rw [sumOf, sumOf, sumOf, if_pos ⟨c1, c2, ov⟩, if_pos ⟨by omega, c2, ow⟩, if_pos ⟨by omega, c2, oz⟩]
    simp only [decide_true, Bool.not_true, cond_false, sumsOf_len]
    rw [e2, ob]
    simp only
    rw [sumsOf_len, l2, decide_eq_true rfl]
end Go.Proofs.Ytiblkkkgajklfaa
