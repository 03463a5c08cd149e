/- Marked nodes: skipping; the first ones, the n-th, the rank, turned. -/
import Derived.Test.YtiblkkkgajklfaaPickC
set_option linter.unusedVariables false
set_option linter.unusedSimpArgs false
namespace Go.Proofs.Ytiblkkkgajklfaa
open Go Go.RowKit

theorem skip2 (N : Nat) (t t2 : List Int) (t3 s : List (List Int)) (h : SumsR t t2 t3 s) (hw : MarkR (firstsOf s)) (i L : Nat) (f : Int) (hi : i < t2.length) (hL : L ≤ t2.length) (hf : 0 ≤ f ∧ f ≤ 9223372036854775807) : ∀ (l m : Nat), (l : Int) < hAt t2 i → l + 1 < m →
    (∃ g, g ≤ l ∧ (g : Int) < hAt t2 i ∧ dist t2 i g ≤ L ∧ segS (firstsOf s) i (dist t2 i g) ≤ f ∧ l__pick_round_skip_phhhhhh_2 N m (f, ((t.length : Nat) : Int), (l : Int), t, t2, t3, s, (i : Int), (L : Int)) = some (.inr (f - segS (firstsOf s) i (dist t2 i g), segS (firstsOf s) i (dist t2 i g), f, true, t, t2, t3, s, (((i + dist t2 i g) % t2.length : Nat) : Int), ((L - dist t2 i g : Nat) : Int)))) ∨
    ((∀ g, g ≤ l → ¬ (dist t2 i g ≤ L ∧ segS (firstsOf s) i (dist t2 i g) ≤ f)) ∧ l__pick_round_skip_phhhhhh_2 N m (f, ((t.length : Nat) : Int), (l : Int), t, t2, t3, s, (i : Int), (L : Int)) = some (.inl (f, t, t2, t3, s, (i : Int), (L : Int))))
  | l, 0, h1, h2 => by omega
  | l, m + 1, h1, h2 => by
    obtain ⟨k1, k2, k3, k4⟩ := sumsR_len h
    obtain ⟨x, y, g1, g2, g3, g4⟩ := look h (l := l) hi h1
    obtain ⟨_, d1, d2, _⟩ := dist_ok hi h1
    have hml := Nat.mod_lt (i + dist t2 i l) (show 0 < t2.length by omega)
    have sl := seg_le h.2.1.2.2 i (dist t2 i l)
    have s0 := pl_len hw i (dist t2 i l)
    have hx : ∃ y : Nat, (((i + dist t2 i l) % t2.length : Nat) : Int) - (i : Int) + (t.length : Int) - 1 = (y : Int) ∧ y % t2.length = dist t2 i l - 1 := by
      by_cases c : i + dist t2 i l < t2.length
      · rw [Nat.mod_eq_of_lt c]
        exact ⟨dist t2 i l + t2.length - 1, by omega, by rw [show dist t2 i l + t2.length - 1 = (dist t2 i l - 1) + t2.length by omega, Nat.add_mod_right, Nat.mod_eq_of_lt (by omega)]⟩
      · rw [Nat.mod_eq_sub_mod (by omega), Nat.mod_eq_of_lt (by omega)]
        exact ⟨dist t2 i l - 1, by omega, Nat.mod_eq_of_lt (by omega)⟩
    obtain ⟨yy, e1, e2⟩ := hx
    rw [l__pick_round_skip_phhhhhh_2_s, cd, if_pos (by omega), nth_of g3, ob, nth_of g4, ob, w64 (x := (((i + dist t2 i l) % t2.length : Nat) : Int) - (i : Int)) (by omega) (by omega), w64 (x := (((i + dist t2 i l) % t2.length : Nat) : Int) - (i : Int) + ((t.length : Nat) : Int)) (by omega) (by omega), e1, w64 (by omega) (by omega), rem_of (by omega), tmod_nat, ← k2, e2, ob, nth_of g1, ob, nth_of g2, ob, w64n (by omega), show dist t2 i l - 1 + 1 = dist t2 i l by omega, cd]
    have next : ¬ (dist t2 i l ≤ L ∧ segS (firstsOf s) i (dist t2 i l) ≤ f) →
        (∃ g, g ≤ l ∧ (g : Int) < hAt t2 i ∧ dist t2 i g ≤ L ∧ segS (firstsOf s) i (dist t2 i g) ≤ f ∧ l__pick_round_skip_phhhhhh_2 N m (f, ((t2.length : Nat) : Int), IntKind.wrap .i64 ((l : Int) - 1), t, t2, t3, s, (i : Int), (L : Int)) = some (.inr (f - segS (firstsOf s) i (dist t2 i g), segS (firstsOf s) i (dist t2 i g), f, true, t, t2, t3, s, (((i + dist t2 i g) % t2.length : Nat) : Int), ((L - dist t2 i g : Nat) : Int)))) ∨
        ((∀ g, g ≤ l → ¬ (dist t2 i g ≤ L ∧ segS (firstsOf s) i (dist t2 i g) ≤ f)) ∧ l__pick_round_skip_phhhhhh_2 N m (f, ((t2.length : Nat) : Int), IntKind.wrap .i64 ((l : Int) - 1), t, t2, t3, s, (i : Int), (L : Int)) = some (.inl (f, t, t2, t3, s, (i : Int), (L : Int)))) := fun hn => by
      cases l with
      | zero =>
        obtain ⟨m, rfl⟩ : ∃ q, m = q + 1 := ⟨m - 1, by omega⟩
        refine .inr ⟨fun g hg => ?_, ?_⟩
        · obtain rfl : g = 0 := by omega
          exact hn
        · rw [w64 (by omega) (by omega), l__pick_round_skip_phhhhhh_2_s, cd, if_neg (by omega)]
      | succ l =>
        have hb := high_at h.2.1.2.1.1.2.2.2 hi
        rw [show IntKind.wrap .i64 (((l + 1 : Nat) : Int) - 1) = (l : Int) by rw [w64 (by omega) (by omega)]; omega]
        have ih := skip2 N t t2 t3 s h hw i L f hi hL hf l m (by omega) (by omega)
        rw [← k2] at ih
        rcases ih with ⟨g, a1, a2, a3, a4, a5⟩ | ⟨a1, a2⟩
        · exact .inl ⟨g, by omega, a2, a3, a4, a5⟩
        · refine .inr ⟨fun g hg => ?_, a2⟩
          by_cases e : g = l + 1
          · subst e; exact hn
          · exact a1 g (by omega)
    by_cases c1 : dist t2 i l ≤ L
    · rw [if_pos (by omega), cd]
      by_cases c2 : segS (firstsOf s) i (dist t2 i l) ≤ f
      · refine .inl ⟨l, Nat.le_refl _, h1, c1, c2, ?_⟩
        rw [if_pos c2, ob, nth_of g4, ob, w64 (by omega) (by omega), w64 (by omega) (by omega), decide_eq_true c2, show (L : Int) - ((dist t2 i l : Nat) : Int) = ((L - dist t2 i l : Nat) : Int) by omega]
      · rw [if_neg c2]
        exact next (fun h => c2 h.2)
    · rw [if_neg (by omega)]
      exact next (fun h => c1 h.1)
/-- skipping so many -/
theorem skip1 (N : Nat) (hN : Fu ≤ N) (t t2 : List Int) (t3 s : List (List Int)) (h : PickR t t2 t3 s) : ∀ (L i f m : Nat), i < t2.length → L ≤ t2.length → L < m → f ≤ 9223372036854775807 →
    (∀ j, j < L → hAt (firstsOf s) ((i + j) % t2.length) = 1 → segS (firstsOf s) i j = (f : Int) → l__pick_round_skip_phhhhhh_1 N m ((f : Int), t, t2, t3, s, (i : Int), (L : Int)) = some (.inr (0, true, t, t2, t3, s, (((i + j) % t2.length : Nat) : Int), ((L - j : Nat) : Int)))) ∧
    ((pl (firstsOf s) i L).length ≤ f → ∃ f' a', l__pick_round_skip_phhhhhh_1 N m ((f : Int), t, t2, t3, s, (i : Int), (L : Int)) = some (.inl (f', t, t2, t3, s, a', 0))) := by
  intro L
  induction L using Nat.strongRecOn with
  | _ L ih =>
    intro i f m hi hL hm hf
    obtain ⟨k1, k2, k3, k4⟩ := sumsR_len h.1
    obtain ⟨m, rfl⟩ : ∃ q, m = q + 1 := ⟨m - 1, by omega⟩
    rw [l__pick_round_skip_phhhhhh_1_s, cd]
    by_cases hL0 : L = 0
    · subst hL0
      rw [if_neg (by omega)]
      exact ⟨fun j hj => by omega, fun _ => ⟨f, i, rfl⟩⟩
    have hb := high_at h.1.2.1.2.1.1.2.2.2 hi
    obtain ⟨H, hH⟩ : ∃ H : Nat, hAt t2 i = (H : Int) := ⟨_, (Int.toNat_of_nonneg (by omega)).symm⟩
    have e2 := skip2 N t t2 t3 s h.1 h.2 i L f hi hL ⟨by omega, by omega⟩ (H - 1) N (by omega) (by have := Fu_eq; omega)
    rw [if_pos (by omega), nth_of (hAt_get hi), ob, hH, show IntKind.wrap .i64 ((H : Int) - 1) = ((H - 1 : Nat) : Int) by rw [w64 (by omega) (by omega)]; omega]
    rcases e2 with ⟨g, a1, a2, a3, a4, a5⟩ | ⟨a1, a2⟩
    · rw [a5, ob]
      simp only
      obtain ⟨_, d1, d2, _⟩ := dist_ok hi a2
      generalize hd : dist t2 i g = d at *
      have hpl := pl_len h.2 i d
      obtain ⟨q, hq⟩ : ∃ q : Nat, segS (firstsOf s) i d = (q : Int) := ⟨_, hpl.symm⟩
      rw [hq, show (f : Int) - (q : Int) = ((f - q : Nat) : Int) by omega]
      obtain ⟨b1, b2⟩ := ih (L - d) (by omega) ((i + d) % t2.length) (f - q) m (Nat.mod_lt _ (by omega)) (by omega) (by omega) (by omega)
      refine ⟨fun j hj hm hs => ?_, fun hlen => ?_⟩
      · have hjd : d ≤ j := Nat.le_of_not_lt fun hlt => by
          have m1 := seg_mono h.2 i (j + 1) d (by omega)
          rw [seg_one, k1, hm, hs] at m1
          omega
        have hadd := seg_add (firstsOf s) i d (j - d)
        rw [show d + (j - d) = j by omega, hs, hq, k1] at hadd
        have e := b1 (j - d) (by omega) (by rw [Nat.mod_add_mod, show i + d + (j - d) = i + j by omega]; exact hm) (by omega)
        rw [Nat.mod_add_mod, show i + d + (j - d) = i + j by omega, show L - d - (j - d) = L - j by omega] at e
        exact e
      · have hadd := congrArg List.length (pl_add (firstsOf s) d i (L - d))
        rw [show d + (L - d) = L by omega, List.length_append, k1] at hadd
        exact b2 (by omega)
    · rw [a2, ob]
      simp only
      have h0 := a1 0 (Nat.zero_le _)
      rw [dist_zero h.1.2.1.2.1.1.2.2.2 hi] at h0
      have hw1 : segS (firstsOf s) i 1 = hAt (firstsOf s) i := by
        rw [show (1 : Nat) = 0 + 1 from rfl, seg_one, k1, Nat.add_zero, Nat.mod_eq_of_lt hi]; simp [segS]
      have hm1 := mark_at h.2 i
      have hgt : (f : Int) < hAt (firstsOf s) i := by
        rw [hw1] at h0
        exact Int.lt_of_not_ge fun hh => h0 ⟨by omega, hh⟩
      have hf0 : f = 0 := by omega
      have hi1 : hAt (firstsOf s) i = 1 := by omega
      subst hf0
      refine ⟨fun j hj hm hs => ?_, fun hlen => ?_⟩
      · have hj0 : j = 0 := Decidable.byContradiction fun hne => by
          have m1 := seg_mono h.2 i 1 j (by omega)
          rw [hs, hw1, hi1] at m1
          omega
        subst hj0
        rw [Nat.add_zero, Nat.mod_eq_of_lt hi, Nat.sub_zero]; rfl
      · have hp := pl_len h.2 i L
        have m1 := seg_mono h.2 i 1 L (by omega)
        rw [hw1, hi1] at m1
        omega
theorem skip_yes (N : Nat) (hN : Fu + 1 ≤ N) (t t2 : List Int) (t3 s : List (List Int)) (h : PickR t t2 t3 s) {L i f j : Nat} (hi : i < t2.length) (hL : L ≤ t2.length) (hf : f ≤ 9223372036854775807) (hj : j < L) (hm : hAt (firstsOf s) ((i + j) % t2.length) = 1) (hs : segS (firstsOf s) i j = (f : Int)) :
    m__pick_round_skip_phhhhhh N ((f : Int), t, t2, t3, s, (i : Int), (L : Int)) = some (0, true, t, t2, t3, s, (((i + j) % t2.length : Nat) : Int), ((L - j : Nat) : Int)) := by
  obtain ⟨N, rfl⟩ : ∃ n, N = n + 1 := ⟨N - 1, by omega⟩
  have k := sumsR_len h.1
  rw [m__pick_round_skip_phhhhhh_eq, (skip1 N (by omega) t t2 t3 s h L i f N hi hL (by have := Fu_eq; omega) hf).1 j hj hm hs, ob]
theorem skip_no (N : Nat) (hN : Fu + 1 ≤ N) (t t2 : List Int) (t3 s : List (List Int)) (h : PickR t t2 t3 s) {L i f : Nat} (hi : i < t2.length) (hL : L ≤ t2.length) (hf : f ≤ 9223372036854775807) (hl : (pl (firstsOf s) i L).length ≤ f) :
    ∃ f' a', m__pick_round_skip_phhhhhh N ((f : Int), t, t2, t3, s, (i : Int), (L : Int)) = some (f', false, t, t2, t3, s, a', 0) := by
  obtain ⟨N, rfl⟩ : ∃ n, N = n + 1 := ⟨N - 1, by omega⟩
  have k := sumsR_len h.1
  obtain ⟨f', a', e⟩ := (skip1 N (by omega) t t2 t3 s h L i f N hi hL (by have := Fu_eq; omega) hf).2 hl
  refine ⟨f', a', ?_⟩
  rw [m__pick_round_skip_phhhhhh_eq, e, ob]
/-! the first ones -/
def firstOf (t t2 : List Int) (t3 s : List (List Int)) (a k : Int) : Int × List Int :=
  if PickR t t2 t3 s then (if 0 ≤ a ∧ a < (t2.length : Int) then (0, (pl (firstsOf s) a.toNat t2.length).take k.toNat) else (6, [])) else (1, [])
def nthOf (t t2 : List Int) (t3 s : List (List Int)) (a k : Int) : Int × Int :=
  if PickR t t2 t3 s then (if 0 ≤ a ∧ a < (t2.length : Int) then (if 0 ≤ k ∧ k < ((pl (firstsOf s) a.toNat t2.length).length : Int) then ((pl (firstsOf s) a.toNat t2.length).getD k.toNat 0, 0) else (0, 6)) else (0, 6)) else (0, 1)
def rankOf (t t2 : List Int) (t3 s : List (List Int)) (a b : Int) : Int × Int :=
  if PickR t t2 t3 s then ((betweenOf t t2 t3 s a b).1, (betweenOf t t2 t3 s a b).2.2) else (0, 1)
def turnOf (t t2 : List Int) (t3 s : List (List Int)) (ps : List Int) : Int × List (List Int) :=
  if PickR t t2 t3 s then (if PlR t2.length ps then (0, sumsOf t2 (flipAll (firstsOf s) ps)) else (6, [])) else (1, [])
theorem begun_eq (N : Nat) (hN : Fu + 11 ≤ N) (t t2 : List Int) (t3 s : List (List Int)) (a : Int) (h1 : t.length ≤ 9223372036854775807) (h2 : t2.length ≤ 9223372036854775807) (h3 : s.length ≤ 100000) :
    m_pick_begun N (t, t2, t3, s, a) = some (if PickR t t2 t3 s then (if 0 ≤ a ∧ a < (t.length : Int) then .inl (0, t, t2, t3, s, a, (t.length : Int)) else .inr 6) else .inr 1) := by
  obtain ⟨N, rfl⟩ : ∃ n, N = n + 1 := ⟨N - 1, by omega⟩
  rw [m_pick_begun_eq, pright_eq N (by omega) t t2 t3 s h1 h2 h3, ob, cdn]
  by_cases c : PickR t t2 t3 s
  · rw [if_pos c, if_pos c, cd]
    by_cases c1 : a < 0
    · rw [if_pos c1, if_neg (by omega)]
    · rw [if_neg c1, cd]
      by_cases c2 : ((t.length : Nat) : Int) ≤ a
      · rw [if_pos c2, if_neg (by omega)]
      · rw [if_neg c2, if_pos (by omega)]
  · rw [if_neg c, if_neg c]
theorem pl_le {w : List Int} : ∀ (d i : Nat), (pl w i d).length ≤ d
  | 0, i => Nat.le_refl _
  | d + 1, i => by
    have := pl_le (w := w) d ((i + 1) % w.length)
    rw [pl]
    split
    · rw [List.length_cons]; omega
    · omega
theorem first1 (N : Nat) (hN : Fu + 1 ≤ N) (t t2 : List Int) (t3 s : List (List Int)) (h : PickR t t2 t3 s) (k : Int) : ∀ (L i m : Nat) (acc : List Int), i < t2.length → L ≤ t2.length → L < m → acc.length + L ≤ 1000 →
    l_pick_First_1 N m (k, t, t2, t3, s, (i : Int), (L : Int), acc) = some (acc ++ (pl (firstsOf s) i L).take (k.toNat - acc.length)) := by
  intro L
  induction L using Nat.strongRecOn with
  | _ L ih =>
    intro i m acc hi hL hm hacc
    obtain ⟨k1, k2, k3, k4⟩ := sumsR_len h.1
    obtain ⟨m, rfl⟩ : ∃ q, m = q + 1 := ⟨m - 1, by omega⟩
    rw [l_pick_First_1_s, cd]
    by_cases c : ((acc.length : Nat) : Int) < k
    · rw [if_pos c]
      by_cases c0 : pl (firstsOf s) i L = []
      · obtain ⟨f', a', e⟩ := skip_no N hN t t2 t3 s h (L := L) (i := i) (f := 0) hi hL (by omega) (by rw [c0]; simp)
        rw [show ((0 : Nat) : Int) = (0 : Int) from rfl] at e
        rw [e, ob]
        simp only [Bool.not_false, cond_true]
        rw [c0]; simp
      · have hlen := List.length_pos_iff.2 c0
        obtain ⟨j, j1, j2, j3, j4⟩ := pl_at h.2 L i 0 hlen
        rw [k1] at j2 j3
        have e := skip_yes N hN t t2 t3 s h (L := L) (i := i) (f := 0) (j := j) hi hL (by omega) j1 j3 j4
        rw [show ((0 : Nat) : Int) = (0 : Int) from rfl] at e
        have hp := pl_first h.2 j1 (by rw [k1]; exact j3) (by rw [j4]; rfl)
        rw [k1] at hp
        have hml := Nat.mod_lt (i + j) (show 0 < t2.length by omega)
        have hb := high_at h.1.2.1.2.1.1.2.2.2 hml
        obtain ⟨x, y, g1, g2, g3, g4⟩ := look h.1 (l := 0) hml (by omega)
        rw [dist_zero h.1.2.1.2.1.1.2.2.2 hml, Nat.mod_add_mod] at g4
        rw [e, ob]
        simp only [Bool.not_true, cond_false]
        rw [app_of (by omega) (by simp; omega), ob, nth_of g3, ob, show ((0 : Int) = ((0 : Nat) : Int)) from rfl, nth_of g4, ob, show IntKind.wrap .i64 (((L - j : Nat) : Int) - 1) = ((L - j - 1 : Nat) : Int) by rw [w64 (by omega) (by omega)]; omega, ih (L - j - 1) (by omega) _ m _ (Nat.mod_lt _ (by omega)) (by omega) (by omega) (by simp; omega), hp, show k.toNat - acc.length = (k.toNat - (acc ++ [(((i + j) % t2.length : Nat) : Int)]).length) + 1 by simp; omega, List.take_succ_cons]
        simp
    · rw [if_neg c, show k.toNat - acc.length = 0 by omega]; simp
theorem pfirst_eq (N : Nat) (hN : Fu + 12 ≤ N) (t t2 : List Int) (t3 s : List (List Int)) (a k : Int) (h1 : t.length ≤ 9223372036854775807) (h2 : t2.length ≤ 9223372036854775807) (h3 : s.length ≤ 100000) : m_pick_First N (t, t2, t3, s, a, k) = some (firstOf t t2 t3 s a k) := by
  obtain ⟨N, rfl⟩ : ∃ n, N = n + 1 := ⟨N - 1, by omega⟩
  rw [m_pick_First_eq, begun_eq N (by omega) t t2 t3 s a h1 h2 h3, ob, firstOf]
  by_cases c : PickR t t2 t3 s
  · obtain ⟨k1, k2, k3, k4⟩ := sumsR_len c.1
    rw [if_pos c, if_pos c, k2]
    by_cases c2 : 0 ≤ a ∧ a < (t.length : Int)
    · rw [if_pos c2, if_pos c2]
      obtain ⟨i, rfl⟩ : ∃ i : Nat, a = (i : Int) := ⟨a.toNat, by omega⟩
      have e := first1 N (by omega) t t2 t3 s c k t.length i N [] (by omega) (by omega) (by have := Fu_eq; omega) (by simp; omega)
      simp only [decide_true, Bool.not_true, cond_false]
      rw [e, ob]; simp
    · rw [if_neg c2, if_neg c2]; rfl
  · rw [if_neg c, if_neg c]; rfl
theorem pnth_eq (N : Nat) (hN : Fu + 12 ≤ N) (t t2 : List Int) (t3 s : List (List Int)) (a k : Int) (h1 : t.length ≤ 9223372036854775807) (h2 : t2.length ≤ 9223372036854775807) (h3 : s.length ≤ 100000) (hk : k ≤ 9223372036854775807) : m_pick_Nth N (t, t2, t3, s, a, k) = some (nthOf t t2 t3 s a k) := by
  obtain ⟨N, rfl⟩ : ∃ n, N = n + 1 := ⟨N - 1, by omega⟩
  rw [m_pick_Nth_eq, begun_eq N (by omega) t t2 t3 s a h1 h2 h3, ob, nthOf]
  by_cases c : PickR t t2 t3 s
  · obtain ⟨k1, k2, k3, k4⟩ := sumsR_len c.1
    rw [if_pos c, if_pos c, k2]
    by_cases c2 : 0 ≤ a ∧ a < (t.length : Int)
    · rw [if_pos c2, if_pos c2]
      obtain ⟨i, rfl⟩ : ∃ i : Nat, a = (i : Int) := ⟨a.toNat, by omega⟩
      simp only [decide_true, Bool.not_true, cond_false, Int.toNat_natCast]
      rw [cd]
      by_cases c3 : k < 0
      · rw [if_pos c3, if_neg (by omega)]
      rw [if_neg c3]
      obtain ⟨f, rfl⟩ : ∃ f : Nat, k = (f : Int) := ⟨k.toNat, by omega⟩
      by_cases c4 : f < (pl (firstsOf s) i t.length).length
      · obtain ⟨j, j1, j2, j3, j4⟩ := pl_at c.2 t.length i f c4
        rw [k1] at j2 j3
        have hle := pl_le (w := firstsOf s) t.length i
        have e := skip_yes N (by omega) t t2 t3 s c (L := t.length) (i := i) (f := f) (j := j) (by omega) (by omega) (by omega) j1 j3 j4
        rw [e, ob, if_pos (by omega)]
        simp only [Bool.not_true, cond_false]
        rw [List.getD_eq_getElem?_getD, Int.toNat_natCast, j2]; rfl
      · rw [if_neg (by omega)]
        obtain ⟨f', a', e⟩ := skip_no N (by omega) t t2 t3 s c (L := t.length) (i := i) (f := f) (by omega) (by omega) (by omega) (by omega)
        rw [e, ob]; rfl
    · rw [if_neg c2, if_neg c2]; rfl
  · rw [if_neg c, if_neg c]; rfl
end Go.Proofs.Ytiblkkkgajklfaa
