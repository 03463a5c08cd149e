/- Changes, both. -/
import Derived.Test.YtiblkkkgajklfaaSumF
set_option linter.unusedVariables false
set_option linter.unusedSimpArgs false
namespace Go.Proofs.Ytiblkkkgajklfaa
open Go Go.RowKit

def setAll : List Int → List Int → List Int → List Int
  | w, p :: ps, x :: xs => setAll (w.set p.toNat x) ps xs
  | w, _, _ => w
def PlR (n : Nat) (ps : List Int) : Prop := ∀ p ∈ ps, 0 ≤ p ∧ p < (n : Int)
instance (n : Nat) (ps : List Int) : Decidable (PlR n ps) := by unfold PlR; exact inferInstance
def difL : List Int → List Int → Nat
  | a :: ra, b :: rb => (if a = b then 0 else 1) + difL ra rb
  | _, _ => 0
def difS : List (List Int) → List (List Int) → Nat
  | a :: ra, b :: rb => difL a b + difS ra rb
  | _, _ => 0
def changeOf (t t2 : List Int) (t3 s : List (List Int)) (ps ws : List Int) : Int × Int × List (List Int) :=
  if SumsR t t2 t3 s ∧ ps.length = ws.length ∧ OddR ws then (if PlR t2.length ps then (((difS (sumsOf t2 (setAll (firstsOf s) ps ws)) s : Nat) : Int), 0, sumsOf t2 (setAll (firstsOf s) ps ws)) else (0, 6, [])) else (0, 1, [])
theorem setAll_len : ∀ (ps xs w : List Int), (setAll w ps xs).length = w.length
  | [], xs, w => by simp [setAll]
  | p :: ps, [], w => by simp [setAll]
  | p :: ps, x :: xs, w => by rw [setAll, setAll_len]; simp
theorem odd_set {w : List Int} (h : OddR w) {x : Int} (hx : -1073741824 ≤ x ∧ x ≤ 1073741824) (i : Nat) : OddR (w.set i x) := fun y hy => by
  rcases List.mem_or_eq_of_mem_set hy with e | e
  · exact h y e
  · subst e; exact hx
theorem setAll_odd : ∀ (ps xs w : List Int), OddR w → OddR xs → OddR (setAll w ps xs)
  | [], xs, w, h, _ => by simpa [setAll] using h
  | p :: ps, [], w, h, _ => by simpa [setAll] using h
  | p :: ps, x :: xs, w, h, h2 => by
    rw [setAll]
    exact setAll_odd ps xs _ (odd_set h (h2 x (by simp)) _) (fun y hy => h2 y (by simp [hy]))
theorem pl_cons {n : Nat} {p : Int} {ps : List Int} (h : 0 ≤ p ∧ p < (n : Int)) : PlR n (p :: ps) ↔ PlR n ps := ⟨fun e t ht => e t (by simp [ht]), fun e t ht => by
  rcases List.mem_cons.1 ht with rfl | ht
  · exact h
  · exact e t ht⟩
theorem ch1 (N : Nat) (t t2 ps ws : List Int) (t3 s : List (List Int)) (hl : ps.length = ws.length) (hm : ps.length ≤ 1000000) : ∀ (k i m : Nat) (w : List Int), w.length ≤ 1000000 → i + k = ps.length → k < m →
    l_sum_Change_1 N m (s, ws, ps, ((ps.length : Nat) : Int), (i : Int), t, t2, t3, w) = some (if PlR w.length (ps.drop i) then .inl (s, t, t2, t3, setAll w (ps.drop i) (ws.drop i)) else .inr (0, 6))
  | k, i, 0, w, hw, h1, h2 => by omega
  | 0, i, m + 1, w, hw, h1, h2 => by
    rw [l_sum_Change_1_s, cd, if_neg (by omega), List.drop_eq_nil_of_le (by omega), if_pos (by intro t h; cases h)]
    simp [setAll]
  | k + 1, i, m + 1, w, hw, h1, h2 => by
    obtain ⟨p, hp⟩ := get_at (xs := ps) (i := i) (by omega)
    obtain ⟨x, hx⟩ := get_at (xs := ws) (i := i) (by omega)
    rw [l_sum_Change_1_s, cd, if_pos (by omega), nth_of hp, ob, cd, drop_at hp, drop_at hx]
    by_cases c1 : p < 0
    · rw [if_pos c1, if_neg (fun e => by have := e p (by simp); omega)]
    rw [if_neg c1, cd]
    by_cases c2 : (w.length : Int) ≤ p
    · rw [if_pos c2, if_neg (fun e => by have := e p (by simp); omega)]
    obtain ⟨y, hy⟩ := get_at (xs := w) (i := p.toNat) (by omega)
    rw [if_neg c2, nth_of hx, ob, nth_at hy (by omega), ob, ob, w64n (by omega), ch1 N t t2 ps ws t3 s hl hm k (i + 1) m _ (by simpa using hw) (by omega) (by omega), List.length_set, setAll]
    by_cases c3 : PlR w.length (ps.drop (i + 1))
    · rw [if_pos c3, if_pos ((pl_cons ⟨by omega, by omega⟩).2 c3)]
    · rw [if_neg c3, if_neg (fun e => c3 ((pl_cons ⟨by omega, by omega⟩).1 e))]
theorem rch2 (N : Nat) (t t2 ps ws : List Int) (t3 s : List (List Int)) (hl : ps.length = ws.length) (hm : ps.length ≤ 1000000) : ∀ (k i m : Nat) (w : List Int), w.length ≤ 1000000 → i + k = ps.length → k < m →
    l_ref16_Change_2 N m (s, ps, ws, (i : Int), t, t2, t3, w) = some (if PlR w.length (ps.drop i) then .inl (s, t, t2, t3, setAll w (ps.drop i) (ws.drop i)) else .inr (0, 6))
  | k, i, 0, w, hw, h1, h2 => by omega
  | 0, i, m + 1, w, hw, h1, h2 => by
    rw [l_ref16_Change_2_s, cd, if_neg (by omega), List.drop_eq_nil_of_le (by omega), if_pos (by intro t h; cases h)]
    simp [setAll]
  | k + 1, i, m + 1, w, hw, h1, h2 => by
    obtain ⟨p, hp⟩ := get_at (xs := ps) (i := i) (by omega)
    obtain ⟨x, hx⟩ := get_at (xs := ws) (i := i) (by omega)
    rw [l_ref16_Change_2_s, cd, if_pos (by omega), nth_of hp, ob, cd, drop_at hp, drop_at hx]
    by_cases c1 : p < 0
    · rw [if_pos c1, if_neg (fun e => by have := e p (by simp); omega)]
    rw [if_neg c1, ob, cd]
    by_cases c2 : (w.length : Int) ≤ p
    · rw [if_pos c2, if_neg (fun e => by have := e p (by simp); omega)]
    obtain ⟨y, hy⟩ := get_at (xs := w) (i := p.toNat) (by omega)
    rw [if_neg c2, ob, nth_of hx, ob, nth_at hy (by omega), ob, ob, w64n (by omega), rch2 N t t2 ps ws t3 s hl hm k (i + 1) m _ (by simpa using hw) (by omega) (by omega), List.length_set, setAll]
    by_cases c3 : PlR w.length (ps.drop (i + 1))
    · rw [if_pos c3, if_pos ((pl_cons ⟨by omega, by omega⟩).2 c3)]
    · rw [if_neg c3, if_neg (fun e => c3 ((pl_cons ⟨by omega, by omega⟩).1 e))]
theorem rch1 (N : Nat) (hN : Fu ≤ N) (t t2 ps ws w : List Int) (t3 s : List (List Int)) (hm : ws.length ≤ 1000000) : ∀ (k i m : Nat), i + k = ws.length → k < m →
    l_ref16_Change_1 N m (s, ps, ws, (i : Int), t, t2, t3, w) = some (if OddR (ws.drop i) then .inl (s, ps, ws, t, t2, t3, w) else .inr (0, 1))
  | k, i, 0, h1, h2 => by omega
  | 0, i, m + 1, h1, h2 => by
    rw [l_ref16_Change_1_s, cd, if_neg (by omega), List.drop_eq_nil_of_le (by omega), if_pos (by intro t h; cases h)]
  | k + 1, i, m + 1, h1, h2 => by
    obtain ⟨x, hx⟩ := get_at (xs := ws) (i := i) (by omega)
    rw [l_ref16_Change_1_s, cd, if_pos (by omega), nth_of hx, ob, rmay_eq N hN, ob, cdn, drop_at hx]
    by_cases c1 : -1073741824 ≤ x ∧ x ≤ 1073741824
    · rw [if_pos c1, w64n (by omega), rch1 N hN t t2 ps ws w t3 s hm k (i + 1) m (by omega) (by omega)]
      have : OddR (x :: ws.drop (i + 1)) ↔ OddR (ws.drop (i + 1)) := ⟨fun e t ht => e t (by simp [ht]), fun e t ht => by
        rcases List.mem_cons.1 ht with rfl | ht
        · exact c1
        · exact e t ht⟩
      by_cases h5 : OddR (ws.drop (i + 1))
      · rw [if_pos h5, if_pos (this.2 h5)]
      · rw [if_neg h5, if_neg (fun e => h5 (this.1 e))]
    · rw [if_neg c1, if_neg (fun e => c1 (e x (by simp)))]
theorem ch3 (N : Nat) (s out : List (List Int)) (v68 v69 : Int) (row srow : List Int) (j : Nat) (hs : s[j]? = some srow) (hl : row.length = srow.length) (h8 : row.length ≤ 8) : ∀ (k h m o : Nat), h + k = row.length → k < m → o ≤ 100000 + h →
    l_sum_Change_3 N m (s, (o : Int), (j : Int), v68, v69, row, ((row.length : Nat) : Int), (h : Int), out) = some (s, ((o + difL (row.drop h) (srow.drop h) : Nat) : Int), v68, v69, out)
  | k, h, 0, o, h1, h2, h3 => by omega
  | 0, h, m + 1, o, h1, h2, h3 => by
    rw [l_sum_Change_3_s, cd, if_neg (by omega), List.drop_eq_nil_of_le (by omega)]
    simp [difL]
  | k + 1, h, m + 1, o, h1, h2, h3 => by
    obtain ⟨x, hx⟩ := get_at (xs := row) (i := h) (by omega)
    obtain ⟨y, hy⟩ := get_at (xs := srow) (i := h) (by omega)
    rw [l_sum_Change_3_s, cd, if_pos (by omega), nth_of hx, ob, nth_of hs, ob, nth_of hy, ob, cdn, drop_at hx, drop_at hy, difL, w64n (by omega), w64n (by omega)]
    by_cases c : x = y
    · rw [if_pos c, if_pos c, ch3 N s out v68 v69 row srow j hs hl h8 k (h + 1) m o (by omega) (by omega) (by omega), Nat.zero_add]
    · rw [if_neg c, if_neg c, ch3 N s out v68 v69 row srow j hs hl h8 k (h + 1) m (o + 1) (by omega) (by omega) (by omega), Nat.add_assoc]
theorem difL_le : ∀ a b : List Int, difL a b ≤ a.length
  | [], _ => by simp [difL]
  | a :: ra, [] => by simp [difL]
  | a :: ra, b :: rb => by
    have := difL_le ra rb
    rw [difL, List.length_cons]
    split <;> omega
/-- alike in shape -/
def Alike (out s : List (List Int)) : Prop := out.length = s.length ∧ ∀ (j : Nat) (x y : List Int), out[j]? = some x → s[j]? = some y → x.length = y.length ∧ x.length ≤ 8
theorem ch2 (N : Nat) (hN : Fu ≤ N) (s out : List (List Int)) (ha : Alike out s) (h1000 : out.length ≤ 1000) : ∀ (k j m o : Nat), j + k = out.length → k < m → o ≤ 8 * j →
    l_sum_Change_2 N m (s, (o : Int), ((out.length : Nat) : Int), (j : Int), out) = some (((o + difS (out.drop j) (s.drop j) : Nat) : Int), out)
  | k, j, 0, o, h1, h2, h3 => by omega
  | 0, j, m + 1, o, h1, h2, h3 => by
    rw [l_sum_Change_2_s, cd, if_neg (by omega), List.drop_eq_nil_of_le (by omega)]
    simp [difS]
  | k + 1, j, m + 1, o, h1, h2, h3 => by
    obtain ⟨hl, ha2⟩ := ha
    obtain ⟨x, hx⟩ := get_at (xs := out) (i := j) (by omega)
    obtain ⟨y, hy⟩ := get_at (xs := s) (i := j) (by omega)
    obtain ⟨q1, q2⟩ := ha2 j x y hx hy
    have hd := difL_le x y
    have e3 := ch3 N s out ((out.length : Nat) : Int) (j : Int) x y j hy q1 q2 x.length 0 N o (by omega) (by have := Fu_eq; omega) (by omega)
    rw [List.drop_zero, List.drop_zero, show (((0 : Nat) : Int) = 0) from rfl] at e3
    rw [l_sum_Change_2_s, cd, if_pos (by omega), nth_of hx, ob, ob, e3, ob, drop_at hx, drop_at hy, difS]
    simp only
    rw [w64n (by omega), ch2 N hN s out ⟨hl, ha2⟩ h1000 k (j + 1) m (o + difL x y) (by omega) (by omega) (by omega), Nat.add_assoc]
theorem rch4 (N : Nat) (s out : List (List Int)) (e : Int) (row srow : List Int) (j : Nat) (hs : s[j]? = some srow) (ho : out[j]? = some row) (hl : row.length = srow.length) (h8 : row.length ≤ 8) : ∀ (k h m o : Nat), h + k = row.length → k < m → o ≤ 100000 + h →
    l_ref16_Change_4 N m (s, e, (o : Int), (j : Int), (h : Int), out) = some (s, e, ((o + difL (row.drop h) (srow.drop h) : Nat) : Int), (j : Int), out)
  | k, h, 0, o, h1, h2, h3 => by omega
  | 0, h, m + 1, o, h1, h2, h3 => by
    rw [l_ref16_Change_4_s, nth_of ho, ob, ob, cd, if_neg (by omega), List.drop_eq_nil_of_le (by omega)]
    simp [difL]
  | k + 1, h, m + 1, o, h1, h2, h3 => by
    obtain ⟨x, hx⟩ := get_at (xs := row) (i := h) (by omega)
    obtain ⟨y, hy⟩ := get_at (xs := srow) (i := h) (by omega)
    rw [l_ref16_Change_4_s, nth_of ho, ob, ob, cd, if_pos (by omega), ob, ob, nth_of hx, ob, nth_of hs, ob, nth_of hy, ob, cdn, drop_at hx, drop_at hy, difL, w64n (by omega), w64n (by omega)]
    by_cases c : x = y
    · rw [if_pos c, if_pos c, rch4 N s out e row srow j hs ho hl h8 k (h + 1) m o (by omega) (by omega) (by omega), Nat.zero_add]
    · rw [if_neg c, if_neg c, rch4 N s out e row srow j hs ho hl h8 k (h + 1) m (o + 1) (by omega) (by omega) (by omega), Nat.add_assoc]
theorem rch3 (N : Nat) (hN : Fu ≤ N) (s out : List (List Int)) (e : Int) (ha : Alike out s) (h1000 : out.length ≤ 1000) : ∀ (k j m o : Nat), j + k = out.length → k < m → o ≤ 8 * j →
    l_ref16_Change_3 N m (s, e, (o : Int), (j : Int), out) = some (e, ((o + difS (out.drop j) (s.drop j) : Nat) : Int), out)
  | k, j, 0, o, h1, h2, h3 => by omega
  | 0, j, m + 1, o, h1, h2, h3 => by
    rw [l_ref16_Change_3_s, cd, if_neg (by omega), List.drop_eq_nil_of_le (by omega)]
    simp [difS]
  | k + 1, j, m + 1, o, h1, h2, h3 => by
    obtain ⟨hl, ha2⟩ := ha
    obtain ⟨x, hx⟩ := get_at (xs := out) (i := j) (by omega)
    obtain ⟨y, hy⟩ := get_at (xs := s) (i := j) (by omega)
    obtain ⟨q1, q2⟩ := ha2 j x y hx hy
    have hd := difL_le x y
    have e3 := rch4 N s out e x y j hy hx q1 q2 x.length 0 N o (by omega) (by have := Fu_eq; omega) (by omega)
    rw [List.drop_zero, List.drop_zero, show (((0 : Nat) : Int) = 0) from rfl] at e3
    rw [l_ref16_Change_3_s, cd, if_pos (by omega), e3, ob, drop_at hx, drop_at hy, difS]
    simp only
    rw [w64n (by omega), rch3 N hN s out e ⟨hl, ha2⟩ h1000 k (j + 1) m (o + difL x y) (by omega) (by omega) (by omega), Nat.add_assoc]
theorem alike_sums {hs : List Int} (hh : HighR hs) (w v : List Int) : Alike (sumsOf hs w) (sumsOf hs v) := by
  refine ⟨by simp [sumsOf], fun j x y hx hy => ?_⟩
  have hj : j < hs.length := by
    have := (List.getElem?_eq_some_iff.1 hx).1
    simpa [sumsOf] using this
  rw [sumsOf_at hj] at hx hy
  cases hx; cases hy
  have := high_at hh hj
  rw [rowS_len, rowS_len]
  omega
theorem change_new {t t2 : List Int} {t3 s : List (List Int)} {ps ws : List Int} (h : SumsR t t2 t3 s) (hw : OddR ws) : SumR t t2 t3 (setAll (firstsOf s) ps ws) :=
  ⟨by rw [setAll_len]; exact h.2.1.1, h.2.1.2.1, setAll_odd _ _ _ h.2.1.2.2 hw⟩
theorem change_eq (N : Nat) (hN : Fu + 10 ≤ N) (t t2 : List Int) (t3 s : List (List Int)) (ps ws : List Int) (h1 : t.length ≤ 9223372036854775807) (h2 : t2.length ≤ 9223372036854775807) (h3 : s.length ≤ 100000) (h4 : ps.length ≤ 100000) (h5 : ws.length ≤ 1000000) : m_sum_Change N (t, t2, t3, s, ps, ws) = some (changeOf t t2 t3 s ps ws) := by
  obtain ⟨N, rfl⟩ : ∃ n, N = n + 1 := ⟨N - 1, by omega⟩
  unfold changeOf
  rw [m_sum_Change_eq, weights_eq N (by omega) t t2 t3 s h1 h2 h3, ob, cd]
  by_cases c : ¬ SumsR t t2 t3 s
  · rw [weights_zero c, if_pos (show ((([] : List Int).length : Nat) : Int) = 0 from rfl), if_neg (fun h => c h.1)]
  have c := Decidable.not_not.1 c
  obtain ⟨k1, k2, k3, k4⟩ := sumsR_len c
  rw [weights_pos c, if_neg (by omega), cdn]
  by_cases c2 : ¬ ps.length = ws.length
  · rw [if_neg (by omega), if_neg (fun h => c2 h.2.1)]
  have c2 := Decidable.not_not.1 c2
  rw [if_pos (by omega), soddf_eq N (by omega) ws (by omega), ob]
  by_cases c3 : ¬ OddR ws
  · rw [if_neg (fun h => c3 h.2.2)]
    simp [c3]
  have c3 := Decidable.not_not.1 c3
  rw [if_pos ⟨c, c2, c3⟩]
  simp only [c3, decide_true, Bool.not_true, cond_false]
  have e1 := ch1 N t t2 ps ws t3 s c2 (by omega) ps.length 0 N (firstsOf s) (by omega) (by omega) (by have := Fu_eq; omega)
  rw [List.drop_zero, List.drop_zero, show (((0 : Nat) : Int) = 0) from rfl, k1] at e1
  rw [e1, ob]
  by_cases c4 : ¬ PlR t2.length ps
  · rw [if_neg c4, if_neg c4]
  have c4 := Decidable.not_not.1 c4
  rw [if_pos c4, if_pos c4]
  simp only
  have hn := change_new (ps := ps) c c3
  have hl := setAll_len ps ws (firstsOf s)
  have hal : Alike (sumsOf t2 (setAll (firstsOf s) ps ws)) s := by
    have := alike_sums c.2.1.2.1.1.2.2.2 (setAll (firstsOf s) ps ws) (firstsOf s)
    rw [c.2.2] at this
    exact this
  have hol : (sumsOf t2 (setAll (firstsOf s) ps ws)).length = t2.length := by simp [sumsOf]
  have e2 := ch2 N (by omega) s _ hal (by omega) t2.length 0 N 0 (by omega) (by have := Fu_eq; omega) (by omega)
  rw [List.drop_zero, List.drop_zero, show (((0 : Nat) : Int) = 0) from rfl, Nat.zero_add] at e2
  rw [sbuild_o_eq N (by omega) t t2 t3 _ h1 h2 (by omega), ob, sumOf, if_pos hn]
  simp only
  rw [e2, ob]
theorem rchange_eq (N : Nat) (hN : Fu + 10 ≤ N) (t t2 : List Int) (t3 s : List (List Int)) (ps ws : List Int) (h1 : t.length ≤ 9223372036854775807) (h2 : t2.length ≤ 9223372036854775807) (h3 : s.length ≤ 100000) (h4 : ps.length ≤ 100000) (h5 : ws.length ≤ 1000000) : m_ref16_Change N (t, t2, t3, s, ps, ws) = some (changeOf t t2 t3 s ps ws) := by
  obtain ⟨N, rfl⟩ : ∃ n, N = n + 1 := ⟨N - 1, by omega⟩
  unfold changeOf
  rw [m_ref16_Change_eq, rweights_eq N (by omega) t t2 t3 s h1 h2 h3, ob, cd]
  by_cases c : ¬ SumsR t t2 t3 s
  · rw [weights_zero c, if_pos (show ((([] : List Int).length : Nat) : Int) = 0 from rfl), if_neg (fun h => c h.1)]
  have c := Decidable.not_not.1 c
  obtain ⟨k1, k2, k3, k4⟩ := sumsR_len c
  rw [weights_pos c, if_neg (by omega), cdn]
  by_cases c2 : ¬ ps.length = ws.length
  · rw [if_neg (by omega), if_neg (fun h => c2 h.2.1)]
  have c2 := Decidable.not_not.1 c2
  have e0 := rch1 N (by omega) t t2 ps ws (firstsOf s) t3 s h5 ws.length 0 N (by omega) (by have := Fu_eq; omega)
  rw [List.drop_zero, show (((0 : Nat) : Int) = 0) from rfl] at e0
  rw [if_pos (by omega), e0, ob]
  by_cases c3 : ¬ OddR ws
  · rw [if_neg c3, if_neg (fun h => c3 h.2.2)]
  have c3 := Decidable.not_not.1 c3
  rw [if_pos c3, if_pos ⟨c, c2, c3⟩]
  have e1 := rch2 N t t2 ps ws t3 s c2 (by omega) ps.length 0 N (firstsOf s) (by omega) (by omega) (by have := Fu_eq; omega)
  rw [List.drop_zero, List.drop_zero, show (((0 : Nat) : Int) = 0) from rfl, k1] at e1
  simp only
  rw [e1, ob]
  by_cases c4 : ¬ PlR t2.length ps
  · rw [if_neg c4, if_neg c4]
  have c4 := Decidable.not_not.1 c4
  rw [if_pos c4, if_pos c4]
  simp only
  have hn := change_new (ps := ps) c c3
  have hl := setAll_len ps ws (firstsOf s)
  have hal : Alike (sumsOf t2 (setAll (firstsOf s) ps ws)) s := by
    have := alike_sums c.2.1.2.1.1.2.2.2 (setAll (firstsOf s) ps ws) (firstsOf s)
    rw [c.2.2] at this
    exact this
  have hol : (sumsOf t2 (setAll (firstsOf s) ps ws)).length = t2.length := by simp [sumsOf]
  have e2 := rch3 N (by omega) s _ 0 hal (by omega) t2.length 0 N 0 (by omega) (by have := Fu_eq; omega) (by omega)
  rw [List.drop_zero, List.drop_zero, show (((0 : Nat) : Int) = 0) from rfl, Nat.zero_add] at e2
  rw [rbuilds_o N (by omega) t t2 t3 _ h1 h2 (by omega), ob, sumOf, if_pos hn]
  simp only
  rw [e2, ob]
end Go.Proofs.Ytiblkkkgajklfaa
