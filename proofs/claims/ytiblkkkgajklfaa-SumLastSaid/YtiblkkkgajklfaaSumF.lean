/- What stands between two nodes, both. -/
import Derived.Test.YtiblkkkgajklfaaSumE
set_option linter.unusedVariables false
set_option linter.unusedSimpArgs false
namespace Go.Proofs.Ytiblkkkgajklfaa
open Go Go.RowKit

def levD (hs : List Int) (i d : Nat) : Nat → Nat
  | 0 => 0
  | h + 1 => if dist hs i (h + 1) ≤ d then h + 1 else levD hs i d h
def levO (hs : List Int) (i d : Nat) : Nat := levD hs i d ((hAt hs i).toNat - 1)
def lookD (hs : List Int) : Nat → Nat → Nat → Nat
  | 0, _, _ => 0
  | f + 1, i, d => if d = 0 then 0 else lookD hs f ((i + dist hs i (levO hs i d)) % hs.length) (d - dist hs i (levO hs i d)) + 1
def dOf (n : Nat) (a b : Int) : Nat := (b.toNat + n - a.toNat) % n
def betweenOf (t t2 : List Int) (t3 s : List (List Int)) (a b : Int) : Int × Int × Int :=
  if SumsR t t2 t3 s then (if 0 ≤ a ∧ a < (t2.length : Int) ∧ 0 ≤ b ∧ b < (t2.length : Int) then (segS (firstsOf s) a.toNat (dOf t2.length a b), ((lookD t2 t2.length a.toNat (dOf t2.length a b) : Nat) : Int), 0) else (0, 0, 6)) else (0, 0, 1)
theorem dOf_ok {n : Nat} {a b : Int} (h1 : 0 ≤ a) (h2 : a < (n : Int)) (h3 : 0 ≤ b) (h4 : b < (n : Int)) : dOf n a b < n ∧ b = (((a.toNat + dOf n a b) % n : Nat) : Int) := by
  unfold dOf
  refine ⟨Nat.mod_lt _ (by omega), ?_⟩
  rw [Nat.add_mod_mod, show a.toNat + (b.toNat + n - a.toNat) = b.toNat + n by omega, Nat.add_mod_right, Nat.mod_eq_of_lt (by omega)]
  omega
theorem levD_ok {hs : List Int} {i d : Nat} (h0 : dist hs i 0 ≤ d) : ∀ h, levD hs i d h ≤ h ∧ dist hs i (levD hs i d h) ≤ d
  | 0 => ⟨Nat.le_refl _, h0⟩
  | h + 1 => by
    rw [levD]
    split
    · rename_i c; exact ⟨Nat.le_refl _, c⟩
    · have := levD_ok h0 h
      exact ⟨by omega, this.2⟩
theorem way_eq (N : Nat) (hN : Fu ≤ N) {n i e : Nat} (hi : i < n) (h1 : 1 ≤ e) (h2 : e ≤ n) (hn : n ≤ 1000) : m_sum_BetweenF1_ph N ((i : Int), (((i + e) % n : Nat) : Int), (n : Int)) = some ((e : Int), (n : Int)) := by
  obtain ⟨N, rfl⟩ : ∃ n, N = n + 1 := ⟨N - 1, by have := Fu_eq; omega⟩
  have hml := Nat.mod_lt (i + e) (show 0 < n by omega)
  have hx : ∃ y : Nat, (((i + e) % n : Nat) : Int) - (i : Int) + (n : Int) - 1 = (y : Int) ∧ y % n = e - 1 := by
    by_cases c : i + e < n
    · rw [Nat.mod_eq_of_lt c]
      exact ⟨e + n - 1, by omega, by rw [show e + n - 1 = (e - 1) + n by omega, Nat.add_mod_right, Nat.mod_eq_of_lt (by omega)]⟩
    · rw [Nat.mod_eq_sub_mod (by omega), Nat.mod_eq_of_lt (by omega)]
      exact ⟨e - 1, by omega, Nat.mod_eq_of_lt (by omega)⟩
  obtain ⟨y, e1, e2⟩ := hx
  rw [m_sum_BetweenF1_ph_eq, w64 (x := (((i + e) % n : Nat) : Int) - (i : Int)) (by omega) (by omega), w64 (x := (((i + e) % n : Nat) : Int) - (i : Int) + (n : Int)) (by omega) (by omega), e1, w64 (by omega) (by omega), rem_of (by omega), tmod_nat, e2, ob, w64n (by omega), show e - 1 + 1 = e by omega]
theorem far_eq (N : Nat) (hN : Fu ≤ N) {n i e : Nat} (hi : i < n) (h2 : e ≤ n) (hn : n ≤ 1000) : m_ref16_far N ((n : Int), (i : Int), (((i + e) % n : Nat) : Int)) = some ((e % n : Nat) : Int) := by
  obtain ⟨N, rfl⟩ : ∃ n, N = n + 1 := ⟨N - 1, by have := Fu_eq; omega⟩
  have hml := Nat.mod_lt (i + e) (show 0 < n by omega)
  have hx : ∃ y : Nat, (((i + e) % n : Nat) : Int) - (i : Int) + (n : Int) = (y : Int) ∧ y % n = e % n := by
    by_cases c : i + e < n
    · rw [Nat.mod_eq_of_lt c]
      exact ⟨e + n, by omega, by rw [Nat.add_mod_right]⟩
    · rw [Nat.mod_eq_sub_mod (by omega), Nat.mod_eq_of_lt (by omega)]
      exact ⟨e, by omega, rfl⟩
  obtain ⟨y, e1, e2⟩ := hx
  rw [m_ref16_far_eq, w64 (x := (((i + e) % n : Nat) : Int) - (i : Int)) (by omega) (by omega), e1, w64 (by omega) (by omega), rem_of (by omega), tmod_nat, e2, ob]
theorem bet2 (N : Nat) (hN : Fu ≤ N) (t t2 : List Int) (t3 s : List (List Int)) (h : SumsR t t2 t3 s) (total looks : Int) (i d : Nat) (hi : i < t2.length) (hd1 : 1 ≤ d) (hd : d ≤ t2.length) : ∀ (l m : Nat), (l : Int) < hAt t2 i → l < m →
    l_sum_Between_2 N m (s, (((i + d) % t2.length : Nat) : Int), total, looks, (i : Int), (l : Int), t, t2, t3, ((t2.length : Nat) : Int)) = some (s, (((i + d) % t2.length : Nat) : Int), total, looks, (i : Int), ((levD t2 i d l : Nat) : Int), t, t2, t3, ((t2.length : Nat) : Int))
  | l, 0, h1, h2 => by omega
  | l, m + 1, h1, h2 => by
    obtain ⟨k1, k2, k3, k4⟩ := sumsR_len h
    obtain ⟨x, y, g1, g2, g3, g4⟩ := look h (l := l) hi h1
    obtain ⟨_, d1, d2, _⟩ := dist_ok hi h1
    rw [l_sum_Between_2_s, nth_of g3, ob, nth_of g4, ob, way_eq N hN hi d1 d2 k4, ob]
    simp only
    rw [way_eq N hN hi hd1 hd k4, ob, cd]
    simp only
    cases l with
    | zero =>
      have := dist_zero h.2.1.2.1.1.2.2.2 hi
      rw [if_neg (by omega)]
      rfl
    | succ l =>
      rw [levD]
      by_cases c : dist t2 i (l + 1) ≤ d
      · rw [if_pos c, if_neg (by omega)]
      · rw [if_neg c, if_pos (by omega), show ((l + 1 : Nat) : Int) - 1 = (l : Int) by omega, w64 (by have := (high_at h.2.1.2.1.1.2.2.2 hi).2; omega) (by have := (high_at h.2.1.2.1.1.2.2.2 hi).2; omega)]
        exact bet2 N hN t t2 t3 s h total looks i d hi hd1 hd l m (by omega) (by omega)
/-- what the walk does at a node -/
theorem step_ok {t t2 : List Int} {t3 s : List (List Int)} (h : SumsR t t2 t3 s) {i d : Nat} (hi : i < t2.length) (hd1 : 1 ≤ d) :
    (levO t2 i d : Int) < hAt t2 i ∧ 1 ≤ dist t2 i (levO t2 i d) ∧ dist t2 i (levO t2 i d) ≤ d := by
  have hb := high_at h.2.1.2.1.1.2.2.2 hi
  have h0 := dist_zero h.2.1.2.1.1.2.2.2 hi
  obtain ⟨a, b⟩ := levD_ok (hs := t2) (i := i) (d := d) (by omega) ((hAt t2 i).toNat - 1)
  have hl : (levO t2 i d : Int) < hAt t2 i := by unfold levO; omega
  obtain ⟨_, d1, _, _⟩ := dist_ok hi hl
  exact ⟨hl, d1, b⟩
theorem mod_self_iff {n i d : Nat} (hi : i < n) (hd : d < n) : ((i : Int) = (((i + d) % n : Nat) : Int)) ↔ d = 0 := by
  constructor
  · intro e
    by_cases c : i + d < n
    · rw [Nat.mod_eq_of_lt c] at e; omega
    · rw [Nat.mod_eq_sub_mod (by omega), Nat.mod_eq_of_lt (by omega)] at e; omega
  · rintro rfl
    rw [Nat.add_zero, Nat.mod_eq_of_lt hi]
theorem bet1 (N : Nat) (hN : Fu + 1 ≤ N) (t t2 : List Int) (t3 s : List (List Int)) (h : SumsR t t2 t3 s) : ∀ (f d i m : Nat) (total : Int) (looks : Nat), d ≤ f → f < m → d < t2.length → i < t2.length → -(1073741824 * (1000 - (d : Int))) ≤ total → total ≤ 1073741824 * (1000 - (d : Int)) → looks + d ≤ 1000 →
    l_sum_Between_1 N m (s, (((i + d) % t2.length : Nat) : Int), total, (looks : Int), (i : Int), t, t2, t3, ((t2.length : Nat) : Int)) = some (total + segS (firstsOf s) i d, ((looks + lookD t2 f i d : Nat) : Int))
  | f, d, i, 0, total, looks, h1, h2, h3, h4, h5, h6, h7 => by omega
  | f, d, i, m + 1, total, looks, h1, h2, h3, h4, h5, h6, h7 => by
    obtain ⟨k1, k2, k3, k4⟩ := sumsR_len h
    rw [l_sum_Between_1_s, cdn]
    by_cases c : d = 0
    · rw [if_pos ((mod_self_iff h4 h3).2 c)]
      subst c
      cases f with
      | zero => simp [segS, lookD]
      | succ f => simp [segS, lookD]
    · obtain ⟨f, rfl⟩ : ∃ g, f = g + 1 := ⟨f - 1, by omega⟩
      have hb := high_at h.2.1.2.1.1.2.2.2 h4
      have hx := hAt_get h4
      obtain ⟨s1, s2, s3⟩ := step_ok h (d := d) h4 (by omega)
      obtain ⟨x, y, g1, g2, g3, g4⟩ := look h (l := levO t2 i d) h4 s1
      have e2 := bet2 N (by omega) t t2 t3 s h total (looks : Int) i d h4 (by omega) (by omega) ((hAt t2 i).toNat - 1) N (by omega) (by have := Fu_eq; omega)
      rw [show levD t2 i d ((hAt t2 i).toNat - 1) = levO t2 i d from rfl, show (((hAt t2 i).toNat - 1 : Nat) : Int) = hAt t2 i - 1 by omega] at e2
      rw [if_neg (fun e => c ((mod_self_iff h4 h3).1 e)), nth_of hx, ob, w64 (x := hAt t2 i - 1) (by omega) (by omega), e2, ob]
      have b1 := seg_le h.2.1.2.2 i (dist t2 i (levO t2 i d))
      have hadd := seg_add (firstsOf s) i (dist t2 i (levO t2 i d)) (d - dist t2 i (levO t2 i d))
      have ih := bet1 N hN t t2 t3 s h f (d - dist t2 i (levO t2 i d)) ((i + dist t2 i (levO t2 i d)) % t2.length) m (total + segS (firstsOf s) i (dist t2 i (levO t2 i d))) (looks + 1) (by omega) (by omega) (by omega) (Nat.mod_lt _ k3) (by omega) (by omega) (by omega)
      rw [Nat.mod_add_mod, Nat.add_assoc, show dist t2 i (levO t2 i d) + (d - dist t2 i (levO t2 i d)) = d by omega] at ih
      rw [k1, show dist t2 i (levO t2 i d) + (d - dist t2 i (levO t2 i d)) = d by omega] at hadd
      simp only [nth_of g1, ob, nth_of g2, nth_of g3, nth_of g4]
      rw [w64n (by omega), w64 (by omega) (by omega), ih, lookD, if_neg c, hadd, Int.add_assoc]
      congr 3
      omega
theorem between_eq (N : Nat) (hN : Fu + 10 ≤ N) (t t2 : List Int) (t3 s : List (List Int)) (a b : Int) (h1 : t.length ≤ 9223372036854775807) (h2 : t2.length ≤ 9223372036854775807) (h3 : s.length ≤ 100000) : m_sum_Between N (t, t2, t3, s, a, b) = some (betweenOf t t2 t3 s a b) := by
  obtain ⟨N, rfl⟩ : ∃ n, N = n + 1 := ⟨N - 1, by omega⟩
  unfold betweenOf
  rw [m_sum_Between_eq, weights_eq N (by omega) t t2 t3 s h1 h2 h3, ob, cd]
  by_cases c : ¬ SumsR t t2 t3 s
  · rw [weights_zero c, if_pos (show ((([] : List Int).length : Nat) : Int) = 0 from rfl), if_neg c]
  have c := Decidable.not_not.1 c
  obtain ⟨k1, k2, k3, k4⟩ := sumsR_len c
  rw [weights_pos c, if_neg (by omega), if_pos c, cd, cd]
  by_cases c2 : 0 ≤ a ∧ a < (t2.length : Int) ∧ 0 ≤ b ∧ b < (t2.length : Int)
  · obtain ⟨a1, a2, a3, a4⟩ := c2
    obtain ⟨d1, d2⟩ := dOf_ok a1 a2 a3 a4
    have e1 := bet1 N (by omega) t t2 t3 s c t2.length (dOf t2.length a b) a.toNat N 0 0 (by omega) (by have := Fu_eq; omega) d1 (by omega) (by omega) (by omega) (by omega)
    rw [← d2, Int.toNat_of_nonneg a1, Nat.zero_add, Int.zero_add, show (((0 : Nat) : Int) = 0) from rfl] at e1
    rw [if_neg (by split <;> omega), if_neg (by split <;> omega), if_pos ⟨a1, a2, a3, a4⟩, ← k2, e1, ob]
  · rw [if_neg c2]
    by_cases c3 : (if b < a then b else a) < 0
    · rw [if_pos c3]
    · rw [if_neg c3, if_pos (by
        split at c3 <;> split <;> omega)]
theorem rbet1 (N : Nat) (t t2 w : List Int) (t3 : List (List Int)) (n a d : Nat) (hl : w.length = n) (hw : OddR w) (h1000 : n ≤ 1000) (ha : a < n) (hd : d < n) : ∀ (q e m : Nat), e + q = d → q < m →
    l_ref16_Between_1 N m ((a : Int), (((a + d) % n : Nat) : Int), (n : Int), segS w a e, (((a + e) % n : Nat) : Int), t, t2, t3, w) = some ((a : Int), (((a + d) % n : Nat) : Int), (n : Int), segS w a d, t, t2, t3)
  | q, e, 0, h1, h2 => by omega
  | q, e, m + 1, h1, h2 => by
    have hml := Nat.mod_lt (a + e) (show 0 < n by omega)
    rw [l_ref16_Between_1_s, cdn]
    cases q with
    | zero =>
      have : e = d := by omega
      subst this
      rw [if_pos rfl]
    | succ q =>
      have hne : (a + e) % n ≠ (a + d) % n := by
        rcases Nat.eq_zero_or_pos e with h | h
        · subst h
          have := mod_self_iff ha hd
          rw [Nat.add_zero, Nat.mod_eq_of_lt ha]
          intro hh
          have := this.1 (by omega)
          omega
        · exact mod_ne ha h (by omega) (by omega)
      have hx := hAt_get (hs := w) (j := (a + e) % n) (by omega)
      have b1 := seg_le hw a e
      have b2 := odd_at hw ((a + e) % n)
      have e1 : ((a + e) % n + 1) % n = (a + (e + 1)) % n := by rw [Nat.mod_add_mod]; rfl
      have e2 : segS w a e + hAt w ((a + e) % n) = segS w a (e + 1) := by rw [segS, hl]
      rw [if_neg (by omega), nth_of hx, ob, ob, w64n (by omega), rem_of (by omega), tmod_nat, ob, w64 (x := segS w a e + _) (by omega) (by omega), e1, e2]
      exact rbet1 N t t2 w t3 n a d hl hw h1000 ha hd q (e + 1) m (by omega) (by omega)
theorem rbet3 (N : Nat) (hN : Fu ≤ N) (t t2 : List Int) (t3 s : List (List Int)) (h : SumsR t t2 t3 s) (sum looks : Int) (i d : Nat) (hi : i < t2.length) (hd1 : 1 ≤ d) (hd : d < t2.length) : ∀ (l m : Nat), (l : Int) < hAt t2 i → l < m →
    ∃ (n' i' i2 i3 : Int) (t3' : List (List Int)) (y : List Int) (h' a1 a2 n2 to2 a3 : Int) (b : Bool), l_ref16_Between_3 N m ((((i + d) % t2.length : Nat) : Int), ((t2.length : Nat) : Int), sum, looks, (i : Int), (l : Int), t, t2, t3) = some ((((i + d) % t2.length : Nat) : Int), ((t2.length : Nat) : Int), sum, looks, (i : Int), ((levD t2 i d l : Nat) : Int), n', i', t3', i2, y, h', a1, a2, n2, i3, to2, a3, b, t, t2, t3)
  | l, 0, h1, h2 => by omega
  | l, m + 1, h1, h2 => by
    obtain ⟨k1, k2, k3, k4⟩ := sumsR_len h
    obtain ⟨x, y, g1, g2, g3, g4⟩ := look h (l := l) hi h1
    obtain ⟨_, d1, d2, _⟩ := dist_ok hi h1
    rw [l_ref16_Between_3_s, nth_of g3, ob, nth_of g4, ob, far_eq N hN hi d2 k4, ob, cd]
    simp only [nth_of g3, nth_of g4, ob, far_eq N hN hi d2 k4, far_eq N hN hi (show d ≤ t2.length by omega) k4, cd]
    have hdd : d % t2.length = d := Nat.mod_eq_of_lt hd
    by_cases c : dist t2 i l ≤ d
    · have e1 : dist t2 i l % t2.length = dist t2 i l := Nat.mod_eq_of_lt (by omega)
      rw [e1, hdd, if_neg (by omega), if_neg (by omega)]
      have : levD t2 i d l = l := by
        cases l with
        | zero => rfl
        | succ l => rw [levD, if_pos c]
      rw [this]
      exact ⟨_, _, _, _, _, _, _, _, _, _, _, _, _, rfl⟩
    · cases l with
      | zero =>
        have := dist_zero h.2.1.2.1.1.2.2.2 hi
        omega
      | succ l =>
        have ih := rbet3 N hN t t2 t3 s h sum looks i d hi hd1 hd l m (by omega) (by omega)
        have hb := (high_at h.2.1.2.1.1.2.2.2 hi).2
        rw [levD, if_neg c, show ((l + 1 : Nat) : Int) - 1 = (l : Int) by omega, w64 (by omega) (by omega)]
        by_cases c2 : dist t2 i (l + 1) = t2.length
        · rw [c2, Nat.mod_self, if_pos (by omega)]
          exact ih
        · have e1 : dist t2 i (l + 1) % t2.length = dist t2 i (l + 1) := Nat.mod_eq_of_lt (by omega)
          rw [e1, hdd, if_neg (by omega), if_pos (by omega)]
          exact ih
theorem rbet2 (N : Nat) (hN : Fu + 1 ≤ N) (t t2 : List Int) (t3 s : List (List Int)) (h : SumsR t t2 t3 s) (sum : Int) : ∀ (f d i m : Nat) (looks : Nat), d ≤ f → f < m → d < t2.length → i < t2.length → looks + d ≤ 1000 →
    l_ref16_Between_2 N m ((((i + d) % t2.length : Nat) : Int), ((t2.length : Nat) : Int), sum, (looks : Int), (i : Int), t, t2, t3) = some (sum, ((looks + lookD t2 f i d : Nat) : Int))
  | f, d, i, 0, looks, h1, h2, h3, h4, h7 => by omega
  | f, d, i, m + 1, looks, h1, h2, h3, h4, h7 => by
    obtain ⟨k1, k2, k3, k4⟩ := sumsR_len h
    rw [l_ref16_Between_2_s, cdn]
    by_cases c : d = 0
    · rw [if_pos ((mod_self_iff h4 h3).2 c)]
      subst c
      cases f with
      | zero => simp [lookD]
      | succ f => simp [lookD]
    · obtain ⟨f, rfl⟩ : ∃ g, f = g + 1 := ⟨f - 1, by omega⟩
      have hb := high_at h.2.1.2.1.1.2.2.2 h4
      have hx := hAt_get h4
      obtain ⟨s1, s2, s3⟩ := step_ok h (d := d) h4 (by omega)
      obtain ⟨x, y, g1, g2, g3, g4⟩ := look h (l := levO t2 i d) h4 s1
      obtain ⟨j1, j2, j3, j4, j5, j6, j7, j8, j9, j10, j11, j12, j13, e2⟩ := rbet3 N (by omega) t t2 t3 s h sum (looks : Int) i d h4 (by omega) (by omega) ((hAt t2 i).toNat - 1) N (by omega) (by have := Fu_eq; omega)
      rw [show levD t2 i d ((hAt t2 i).toNat - 1) = levO t2 i d from rfl, show (((hAt t2 i).toNat - 1 : Nat) : Int) = hAt t2 i - 1 by omega] at e2
      rw [if_neg (fun e => c ((mod_self_iff h4 h3).1 e)), nth_of hx, ob, w64 (x := hAt t2 i - 1) (by omega) (by omega), e2, ob]
      have ih := rbet2 N hN t t2 t3 s h sum f (d - dist t2 i (levO t2 i d)) ((i + dist t2 i (levO t2 i d)) % t2.length) m (looks + 1) (by omega) (by omega) (by omega) (Nat.mod_lt _ k3) (by omega)
      rw [Nat.mod_add_mod, Nat.add_assoc, show dist t2 i (levO t2 i d) + (d - dist t2 i (levO t2 i d)) = d by omega] at ih
      simp only [nth_of g3, ob, nth_of g4]
      rw [w64n (by omega), ih, lookD, if_neg c]
      congr 3
      omega
theorem rbetween_eq (N : Nat) (hN : Fu + 10 ≤ N) (t t2 : List Int) (t3 s : List (List Int)) (a b : Int) (h1 : t.length ≤ 9223372036854775807) (h2 : t2.length ≤ 9223372036854775807) (h3 : s.length ≤ 100000) : m_ref16_Between N (t, t2, t3, s, a, b) = some (betweenOf t t2 t3 s a b) := by
  obtain ⟨N, rfl⟩ : ∃ n, N = n + 1 := ⟨N - 1, by omega⟩
  unfold betweenOf
  rw [m_ref16_Between_eq, rweights_eq N (by omega) t t2 t3 s h1 h2 h3, ob, cd]
  by_cases c : ¬ SumsR t t2 t3 s
  · rw [weights_zero c, if_pos (show ((([] : List Int).length : Nat) : Int) = 0 from rfl), if_neg c]
  have c := Decidable.not_not.1 c
  obtain ⟨k1, k2, k3, k4⟩ := sumsR_len c
  rw [weights_pos c, if_neg (by omega), if_pos c, cd, cd, cd, cd, k1]
  by_cases c1 : a < 0
  · rw [if_pos c1, if_neg (by omega)]
  rw [if_neg c1]
  by_cases c2 : (t2.length : Int) ≤ a
  · rw [if_pos c2, if_neg (by omega)]
  rw [if_neg c2]
  by_cases c3 : b < 0
  · rw [if_pos c3, if_neg (by omega)]
  rw [if_neg c3]
  by_cases c4 : (t2.length : Int) ≤ b
  · rw [if_pos c4, if_neg (by omega)]
  rw [if_neg c4, if_pos ⟨by omega, by omega, by omega, by omega⟩]
  obtain ⟨d1, d2⟩ := dOf_ok (n := t2.length) (a := a) (b := b) (by omega) (by omega) (by omega) (by omega)
  have e1 := rbet1 N t t2 (firstsOf s) t3 t2.length a.toNat (dOf t2.length a b) k1 c.2.1.2.2 k4 (by omega) d1 (dOf t2.length a b) 0 N (by omega) (by have := Fu_eq; omega)
  have e2 := rbet2 N (by omega) t t2 t3 s c (segS (firstsOf s) a.toNat (dOf t2.length a b)) t2.length (dOf t2.length a b) a.toNat N 0 (by omega) (by have := Fu_eq; omega) d1 (by omega) (by omega)
  rw [← d2, Int.toNat_of_nonneg (by omega), Nat.add_zero, Nat.mod_eq_of_lt (by omega), Int.toNat_of_nonneg (by omega), show segS (firstsOf s) a.toNat 0 = 0 from rfl] at e1
  rw [← d2, Int.toNat_of_nonneg (by omega), Nat.zero_add, show (((0 : Nat) : Int) = 0) from rfl] at e2
  rw [e1, ob]
  simp only
  rw [e2, ob]
end Go.Proofs.Ytiblkkkgajklfaa
