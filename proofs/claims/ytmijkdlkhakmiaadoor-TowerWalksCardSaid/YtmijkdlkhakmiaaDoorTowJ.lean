/- The law TowerWalks, told plainly. -/
import Derived.Test.YtmijkdlkhakmiaaDoorTowG
set_option linter.unusedVariables false
set_option linter.unusedSimpArgs false
namespace Go.Proofs.YtmijkdlkhakmiaaDoor
open Go Go.RowKit

/-- from a place on, ever higher, until it is so high -/
def Up (hs : List Int) (most : Int) : Nat → List Int → Prop
  | p, [] => most ≤ hAt hs p
  | p, q :: l => hAt hs p < most ∧ ∃ n : Nat, q = (n : Int) ∧ n < hs.length ∧ hAt hs p ≤ hAt hs n ∧ Up hs most n l
theorem wk_up {hs : List Int} {most : Int} (hh : HighR hs) : ∀ (f p : Nat), p < hs.length → (∃ d, d ≤ f ∧ most ≤ hAt hs ((p + d) % hs.length)) → Up hs most p (wk hs most (f + 1) p) ∧ (wk hs most (f + 1) p).length ≤ f
  | f, p, h1, h2 => by
    rw [wk]
    by_cases h : hAt hs p < most
    · obtain ⟨d, hd1, hd2⟩ := h2
      obtain ⟨d', hd3, hd4⟩ := top_near hh h1 h hd2
      obtain ⟨H, a1, a2, a3, a4, a5, a6, a7⟩ := top_links hh h1
      have hlt : (((hAt hs p - 1).toNat : Nat) : Int) < hAt hs p := by omega
      have h5 := (dist_ok h1 hlt).1
      rw [if_pos h]
      cases f with
      | zero => omega
      | succ f =>
        obtain ⟨u1, u2⟩ := wk_up hh f (topOf hs p) a7 ⟨d', by omega, hd4⟩
        refine ⟨⟨h, topOf hs p, rfl, a7, ?_, u1⟩, by simp; omega⟩
        unfold topOf
        omega
    · rw [if_neg h]
      exact ⟨Int.not_lt.1 h, by simp⟩
theorem up_last {hs : List Int} {most : Int} : ∀ (l : List Int) (p : Nat), p < hs.length → Up hs most p l → ∃ z : Nat, z < hs.length ∧ ((p : Int) :: l)[l.length]? = some (z : Int) ∧ most ≤ hAt hs z
  | [], p, hp, h => ⟨p, hp, rfl, h⟩
  | q :: l, p, hp, h => by
    obtain ⟨_, n, rfl, hn, _, hu⟩ := h
    obtain ⟨z, z1, z2, z3⟩ := up_last l n hn hu
    exact ⟨z, z1, by simpa using z2, z3⟩
theorem walks_loop2 (N : Nat) (ts hs : List Int) (hd : Nat) (hhd : hd < hs.length) (hm : hs.length ≤ 1000) : ∀ (l : List Int) (p i m : Nat) (w pre : List Int), w = pre ++ (p : Int) :: l → i = pre.length + 1 → p < hs.length → Up hs (hAt hs hd) p l → l.length < m → w.length ≤ 100000 →
    l_law14_TowerWalks_2 N m (ts, hs, (hd : Int), (i : Int), w) = some (.inl (ts, hs, (hd : Int), w))
  | l, p, i, 0, w, pre, h1, h2, h3, h4, h5, h6 => by omega
  | [], p, i, m + 1, w, pre, h1, h2, h3, h4, h5, h6 => by
    have : w.length = pre.length + 1 := by rw [h1]; simp
    rw [l_law14_TowerWalks_2_s, cd, if_neg (by omega)]
  | q :: l, p, i, m + 1, w, pre, h1, h2, h3, h4, h5, h6 => by
    obtain ⟨u1, n, rfl, u2, u3, u4⟩ := h4
    have hlen : w.length = pre.length + 1 + (l.length + 1) := by rw [h1]; simp; omega
    have g1 : w[i]? = some (n : Int) := by rw [h1, h2, List.getElem?_append_right (by omega), show pre.length + 1 - pre.length = 1 by omega]; rfl
    have g0 : w[pre.length]? = some (p : Int) := by rw [h1, List.getElem?_append_right (by omega), Nat.sub_self]; rfl
    have e0 : nthI w (IntKind.wrap .i64 ((i : Int) - 1)) = some (p : Int) := by
      rw [w64 (by omega) (by omega)]
      exact nth_at g0 (by omega)
    have x1 := hAt_get u2
    have x2 := hAt_get h3
    have x3 := hAt_get hhd
    rw [l_law14_TowerWalks_2_s, cd, if_pos (by omega), nth_of g1, ob, ob, cd, if_neg (by omega), ob, ob, cd, if_neg (by omega), ob, ob, nth_of x1, ob, e0, ob, ob, nth_of x2, ob, cd, if_neg (by omega), ob, ob, nth_of x2, ob, nth_of x3, ob, cd, if_neg (by omega), w64n (by omega)]
    exact walks_loop2 N ts hs hd hhd hm l n (i + 1) m w (pre ++ [(p : Int)]) (by rw [h1]; simp) (by simp; omega) u2 u4 (by simp at h5; omega) h6
theorem walks_loop1 (N : Nat) (ts hs w : List Int) (hd : Nat) (hhd : IsHead hs hs.length hd) (hm : hs.length ≤ 1000) : ∀ (q i m : Nat), i + q = hs.length → q < m →
    l_law14_TowerWalks_1 N m (ts, hs, (hd : Int), (i : Int), w) = some (.inl (ts, hs, (hd : Int), w))
  | q, i, 0, h1, h2 => by omega
  | 0, i, m + 1, h1, h2 => by
    rw [l_law14_TowerWalks_1_s, cd, if_neg (by omega)]
  | q + 1, i, m + 1, h1, h2 => by
    have hi : i < hs.length := by omega
    have x1 := hAt_get hi
    have x3 := hAt_get hhd.lt
    have := hhd.le i hi
    rw [l_law14_TowerWalks_1_s, cd, if_pos (by omega), nth_of x1, ob, nth_of x3, ob, cd, if_neg (by omega), cd, w64n (by omega)]
    have ih := walks_loop1 N ts hs w hd hhd hm q (i + 1) m (by omega) (by omega)
    by_cases h : (i : Int) < (hd : Int)
    · have := hhd.fst i (by omega)
      rw [if_pos h, ob, ob, cd, if_neg (by omega)]
      exact ih
    · rw [if_neg h]
      exact ih
theorem towerWalks_eq (N : Nat) (hN : Fu + 11 ≤ N) (ts hs : List Int) (pl : Int) (h1 : ts.length ≤ 9223372036854775807) (h2 : hs.length ≤ 9223372036854775807) (h3 : 0 ≤ pl) (h4 : pl ≤ 255) : m_law14_TowerWalks N (ts, hs, pl) = some true := by
  obtain ⟨N, rfl⟩ : ∃ n, N = n + 1 := ⟨N - 1, by omega⟩
  rw [m_law14_TowerWalks_eq, alive_eq N (by omega), ob]
  simp only [Bool.not_true, cond_false]
  rw [cd]
  by_cases c1 : (60 : Int) < ts.length
  · rw [if_pos c1]
  rw [if_neg c1, cd]
  by_cases c2 : (60 : Int) < hs.length
  · rw [if_pos c2]
  rw [if_neg c2, build_eq N (by omega) ts hs h1 h2, ob]
  unfold buildOf
  by_cases hno : ¬ TowR ts hs
  · have g1 : headOf [] [] [] = -1 := by decide +kernel
    have g2 : walkOf [] [] [] 0 = [] := by decide +kernel
    rw [if_neg hno]
    simp only
    rw [head_eq N (by omega) _ _ _ (by decide) (by decide), walk_eq N (by omega) _ _ _ _ (by decide) (by decide), g1, g2]
    rfl
  have h := Decidable.not_not.1 hno
  have hT : TowerR ts hs (nextOf hs) := ⟨h, rfl⟩
  obtain ⟨l1, l2, l3⟩ := towerR_len hT
  obtain ⟨n, rfl⟩ : ∃ n : Nat, pl = (n : Int) := ⟨pl.toNat, by omega⟩
  have hml := Nat.mod_lt n (show 0 < ts.length by omega)
  obtain ⟨a, b, _, _, e3, e4⟩ := head_ex N (by omega) hs (by omega) l3
  obtain ⟨d, hd1, hd2⟩ := head_near (hs := hs) e3.lt (p := n % ts.length) (by omega)
  obtain ⟨u1, u2⟩ := wk_up (most := hAt hs b) h.2.2.2 (hs.length - 1) (n % ts.length) (by omega) ⟨d, hd1, by rw [hd2]; exact Int.le_refl _⟩
  rw [show hs.length - 1 + 1 = hs.length by omega] at u1 u2
  have hw : walkOf ts hs (nextOf hs) ((n % ts.length : Nat) : Int) = ((n % ts.length : Nat) : Int) :: wk hs (hAt hs b) hs.length (n % ts.length) := by
    unfold walkOf
    rw [if_pos ⟨hT, by omega, by omega⟩, headN_of e3, Int.toNat_natCast]
  have hhd : headOf ts hs (nextOf hs) = (b : Int) := by unfold headOf; rw [if_pos hT, headN_of e3]
  generalize hW : wk hs (hAt hs b) hs.length (n % ts.length) = W at u1 u2 hw
  obtain ⟨z, z1, z2, z3⟩ := up_last W (n % ts.length) (by omega) u1
  have x1 := hAt_get z1
  have x2 := hAt_get e3.lt
  have z4 := e3.le z z1
  rw [if_pos h]
  simp only [decide_true, Bool.not_true, cond_false]
  rw [w64 (by omega) (by omega), rem_of (by omega), ob, tmod_nat, walk_eq N (by omega) ts hs _ _ h1 h2, ob, head_eq N (by omega) ts hs _ h1 h2, ob, hw, hhd, cd, if_neg (by have := e3.lt; omega), cd, if_neg (by have := e3.lt; omega), cd, if_neg (by simp; omega), show ((0 : Int) = ((0 : Nat) : Int)) from rfl, nth_of (xs := ((n % ts.length : Nat) : Int) :: W) (i := 0) rfl, ob, ob, cdn, if_pos rfl,
    walks_loop1 N ts hs _ b e3 (by omega) hs.length 0 N (by omega) (by have := Fu_eq; omega), ob]
  simp only
  rw [show ((1 : Int) = ((1 : Nat) : Int)) from rfl, walks_loop2 N ts hs b e3.lt (by omega) W (n % ts.length) 1 N (((n % ts.length : Nat) : Int) :: W) [] rfl rfl (by omega) u1 (by have := Fu_eq; omega) (by simp; omega), ob]
  simp only
  have e0 : nthI (((n % ts.length : Nat) : Int) :: W) (IntKind.wrap .i64 (((List.length (((n % ts.length : Nat) : Int) :: W) : Nat) : Int) - ((1 : Nat) : Int))) = some (z : Int) := by
    rw [w64 (by simp) (by simp; omega)]
    exact nth_at z2 (by simp)
  rw [e0, ob, ob, nth_of x1, ob, nth_of x2, ob, cd, if_pos (by omega)]
  congr 1
  simp
  omega
end Go.Proofs.YtmijkdlkhakmiaaDoor
