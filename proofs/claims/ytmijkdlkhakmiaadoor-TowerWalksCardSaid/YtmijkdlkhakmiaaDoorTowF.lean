/- Walks; the fixed fact; the laws TowerBuilds and TowerAnswers, told plainly. -/
import Derived.Test.YtmijkdlkhakmiaaDoorTowE
import Derived.KernelRfl
set_option linter.unusedVariables false
set_option linter.unusedSimpArgs false
namespace Go.Proofs.YtmijkdlkhakmiaaDoor
open Go Go.RowKit

/-- by the highest link of a place -/
def topOf (hs : List Int) (p : Nat) : Nat := (p + dist hs p (hAt hs p - 1).toNat) % hs.length
/-- along highest links, until it is so high -/
def wk (hs : List Int) (most : Int) : Nat → Nat → List Int
  | 0, _ => []
  | f + 1, p => if hAt hs p < most then (topOf hs p : Nat) :: wk hs most f (topOf hs p) else []
theorem top_links {hs : List Int} (hh : HighR hs) {p : Nat} (hp : p < hs.length) : ∃ H : Nat, hAt hs p = (H : Int) ∧ 1 ≤ H ∧ H ≤ 8 ∧ (nextOf hs)[p]? = some (linksOf hs p) ∧ (linksOf hs p).length = H ∧ (linksOf hs p)[H - 1]? = some ((topOf hs p : Nat) : Int) ∧ topOf hs p < hs.length := by
  have hb := high_at hh hp
  obtain ⟨H, hH⟩ : ∃ H : Nat, hAt hs p = (H : Int) := ⟨_, (Int.toNat_of_nonneg (by omega)).symm⟩
  refine ⟨H, hH, by omega, by omega, map_get _ _ _ hp, by simp [linksOf, hH], ?_, Nat.mod_lt _ (by omega)⟩
  unfold linksOf
  rw [hH, Int.toNat_natCast, map_get _ _ _ (by omega)]
  unfold linkOf topOf
  rw [hH, show ((H : Int) - 1).toNat = H - 1 by omega]
theorem top_near {hs : List Int} (hh : HighR hs) {p d : Nat} {most : Int} (hp : p < hs.length) (h : hAt hs p < most) (hd : most ≤ hAt hs ((p + d) % hs.length)) :
    ∃ d', d' < d ∧ most ≤ hAt hs ((topOf hs p + d') % hs.length) := by
  have hb := high_at hh hp
  have hlt : (((hAt hs p - 1).toNat : Nat) : Int) < hAt hs p := by omega
  obtain ⟨a, b, c, e⟩ := dist_ok hp hlt
  have h0 : d ≠ 0 := by
    rintro rfl
    rw [Nat.add_zero, Nat.mod_eq_of_lt hp] at hd
    omega
  have hle : dist hs p (hAt hs p - 1).toNat ≤ d := by
    rcases Nat.lt_or_ge d (dist hs p (hAt hs p - 1).toNat) with h1 | h1
    · exact absurd (by omega) (e d (by omega) h1)
    · exact h1
  refine ⟨d - dist hs p (hAt hs p - 1).toNat, by omega, ?_⟩
  unfold topOf
  rw [Nat.mod_add_mod, show p + dist hs p (hAt hs p - 1).toNat + (d - dist hs p (hAt hs p - 1).toNat) = p + d by omega]
  exact hd
theorem walk_loop (N : Nat) (t hs : List Int) (most : Int) (hh : HighR hs) (hm : hs.length ≤ 1000) : ∀ (f p m : Nat) (walk : List Int), p < hs.length → (∃ d, d ≤ f ∧ most ≤ hAt hs ((p + d) % hs.length)) → f < m → walk.length + f ≤ 1000000 →
    l_tower_Walk_1 N m ((p : Int), most, t, hs, nextOf hs, walk) = some (walk ++ wk hs most (f + 1) p)
  | f, p, 0, walk, h1, h2, h3, h4 => by omega
  | f, p, m + 1, walk, h1, h2, h3, h4 => by
    have hx := hAt_get h1
    obtain ⟨H, a1, a2, a3, a4, a5, a6, a7⟩ := top_links hh h1
    rw [l_tower_Walk_1_s, nth_of hx, ob, cd, wk]
    by_cases h : hAt hs p < most
    · obtain ⟨d, hd1, hd2⟩ := h2
      obtain ⟨d', hd3, hd4⟩ := top_near hh h1 h hd2
      cases f with
      | zero => omega
      | succ f =>
        rw [if_pos h, if_pos h, nth_of a4, ob, a5, w64 (by omega) (by omega), nth_at a6 (by omega), ob, app_of (by omega) (by simp; omega), ob, walk_loop N t hs most hh hm f (topOf hs p) m _ a7 ⟨d', by omega, hd4⟩ (by omega) (by simp; omega)]
        simp
    · rw [if_neg h, if_neg h, List.append_nil]
theorem rwalk_loop (N : Nat) (t hs : List Int) (most : Int) (hh : HighR hs) (hm : hs.length ≤ 1000) : ∀ (f p m : Nat) (walk : List Int), p < hs.length → (∃ d, d ≤ f ∧ most ≤ hAt hs ((p + d) % hs.length)) → f < m → walk.length + f ≤ 1000000 →
    l_ref14_Walk_1 N m (most, (p : Int), t, hs, nextOf hs, walk) = some (walk ++ wk hs most (f + 1) p)
  | f, p, 0, walk, h1, h2, h3, h4 => by omega
  | f, p, m + 1, walk, h1, h2, h3, h4 => by
    have hx := hAt_get h1
    obtain ⟨H, a1, a2, a3, a4, a5, a6, a7⟩ := top_links hh h1
    rw [l_ref14_Walk_1_s, nth_of hx, ob, cd, wk]
    by_cases h : hAt hs p < most
    · obtain ⟨d, hd1, hd2⟩ := h2
      obtain ⟨d', hd3, hd4⟩ := top_near hh h1 h hd2
      cases f with
      | zero => omega
      | succ f =>
        rw [if_pos h, if_pos h, nth_of a4, ob, ob, a1, w64 (by omega) (by omega), nth_at a6 (by omega), ob, app_of (by omega) (by simp; omega), ob, rwalk_loop N t hs most hh hm f (topOf hs p) m _ a7 ⟨d', by omega, hd4⟩ (by omega) (by simp; omega)]
        simp
    · rw [if_neg h, if_neg h, List.append_nil]
def walkOf (t t2 : List Int) (t3 : List (List Int)) (p : Int) : List Int := if TowerR t t2 t3 ∧ 0 ≤ p ∧ p < t.length then p :: wk t2 (hAt t2 (headN t2)) t2.length p.toNat else []
theorem head_near {hs : List Int} {b : Nat} (hb : b < hs.length) {p : Nat} (hp : p < hs.length) : ∃ d, d ≤ hs.length - 1 ∧ (p + d) % hs.length = b := by
  by_cases h : p ≤ b
  · exact ⟨b - p, by omega, by rw [show p + (b - p) = b by omega, Nat.mod_eq_of_lt hb]⟩
  · exact ⟨b + hs.length - p, by omega, by rw [show p + (b + hs.length - p) = b + hs.length by omega, Nat.add_mod_right, Nat.mod_eq_of_lt hb]⟩
theorem walk_eq (N : Nat) (hN : Fu + 7 ≤ N) (t t2 : List Int) (t3 : List (List Int)) (p : Int) (h1 : t.length ≤ 9223372036854775807) (h2 : t2.length ≤ 9223372036854775807) : m_tower_Walk N (t, t2, t3, p) = some (walkOf t t2 t3 p) := by
  obtain ⟨N, rfl⟩ : ∃ n, N = n + 1 := ⟨N - 1, by omega⟩
  unfold walkOf
  rw [m_tower_Walk_eq, cd]
  by_cases c1 : p < 0
  · rw [if_pos c1, if_neg (by omega)]
  rw [if_neg c1, cd]
  by_cases c2 : (t.length : Int) ≤ p
  · rw [if_pos c2, if_neg (by omega)]
  rw [if_neg c2, tright_eq N (by omega) t t2 t3 h1 h2, ob]
  by_cases h : TowerR t t2 t3
  · obtain ⟨l1, l2, l3⟩ := towerR_len h
    obtain ⟨a, b, e1, e2, e3, e4⟩ := head_ex N (by omega) t2 (by omega) l3
    obtain ⟨n, rfl⟩ : ∃ n : Nat, p = (n : Int) := ⟨p.toNat, by omega⟩
    obtain ⟨d, hd1, hd2⟩ := head_near (hs := t2) e3.lt (p := n) (by omega)
    have hw := walk_loop N t t2 a h.1.2.2.2 (by omega) (t2.length - 1) n N [(n : Int)] (by omega) ⟨d, hd1, by rw [hd2, e4]; exact Int.le_refl _⟩ (by have := Fu_eq; omega) (by simp; omega)
    rw [show t2.length - 1 + 1 = t2.length by omega, ← h.2] at hw
    rw [e1, if_pos ⟨h, by omega, by omega⟩, headN_of e3, ← e4, Int.toNat_natCast]
    simp only [h, decide_true, Bool.not_true, cond_false, ob, hw]
    rfl
  · rw [if_neg (fun e => h e.1)]
    simp [h]
theorem rwalk_eq (N : Nat) (hN : Fu + 8 ≤ N) (t t2 : List Int) (t3 : List (List Int)) (p : Int) (h1 : t.length ≤ 9223372036854775807) (h2 : t2.length ≤ 9223372036854775807) : m_ref14_Walk N (t, t2, t3, p) = some (walkOf t t2 t3 p) := by
  obtain ⟨N, rfl⟩ : ∃ n, N = n + 1 := ⟨N - 1, by omega⟩
  unfold walkOf
  rw [m_ref14_Walk_eq, rright_eq N (by omega) t t2 t3 h1 h2, ob]
  by_cases h : TowerR t t2 t3
  · obtain ⟨l1, l2, l3⟩ := towerR_len h
    simp only [h, decide_true, Bool.not_true, cond_false]
    rw [cd]
    by_cases c1 : p < 0
    · rw [if_pos c1, if_neg (by omega)]
    rw [if_neg c1, cd]
    by_cases c2 : (t.length : Int) ≤ p
    · rw [if_pos c2, if_neg (by omega)]
    obtain ⟨a, b, e1, e2, e3, e4⟩ := head_ex N (by omega) t2 (by omega) l3
    obtain ⟨n, rfl⟩ : ∃ n : Nat, p = (n : Int) := ⟨p.toNat, by omega⟩
    obtain ⟨d, hd1, hd2⟩ := head_near (hs := t2) e3.lt (p := n) (by omega)
    have hw := rwalk_loop N t t2 a h.1.2.2.2 (by omega) (t2.length - 1) n N [(n : Int)] (by omega) ⟨d, hd1, by rw [hd2, e4]; exact Int.le_refl _⟩ (by have := Fu_eq; omega) (by simp; omega)
    rw [show t2.length - 1 + 1 = t2.length by omega, ← h.2] at hw
    have hhd : headOf t t2 t3 = (b : Int) := by unfold headOf; rw [if_pos h, headN_of e3]
    have hx := hAt_get e3.lt
    rw [if_neg c2, rhead_eq N (by omega) t t2 t3 h1 h2, ob, hhd, nth_of hx, ob, if_pos ⟨trivial, by omega, by omega⟩, headN_of e3, ← e4, Int.toNat_natCast, hw]
    rfl
  · rw [if_neg (fun e => h e.1)]
    simp [h]

/-! the fixed fact -/
theorem alive_eq (N : Nat) (hN : Fu + 10 ≤ N) : m_law14_alive N () = some true := by
  obtain ⟨N, rfl⟩ : ∃ n, N = n + 1 := ⟨N - 1, by omega⟩
  have g1 : buildOf [7, 3, 9, 4] [1, 3, 2, 1] = (0, [7, 3, 9, 4], [1, 3, 2, 1], [[1], [2, 2, 1], [3, 1], [0]]) := by decide +kernel
  have g2 : buildOf [7, 7] [1, 1] = (1, [], [], []) := by decide +kernel
  have g3 : headOf [7, 3, 9, 4] [1, 3, 2, 1] [[1], [2, 2, 1], [3, 1], [0]] = 1 := by decide +kernel
  have g4 : walkOf [7, 3, 9, 4] [1, 3, 2, 1] [[1], [2, 2, 1], [3, 1], [0]] 2 = [2, 1] := by decide +kernel
  have g5 : walkOf [7, 3, 9, 4] [1, 3, 2, 1] [[1], [2, 2, 1], [3, 1], [0]] 3 = [3, 0, 1] := by decide +kernel
  have g6 : levelOf [7, 3, 9, 4] [1, 3, 2, 1] [[1], [2, 2, 1], [3, 1], [0]] 1 = [1, 2] := by decide +kernel
  have g7 : List.map (hgtOf [4, 1]) [0, 1, -1] = [3, 1, 1] := by decide +kernel
  have g8 : TowerR [7, 3, 9, 4] [1, 3, 2, 1] [[1], [2, 2, 1], [3, 1], [0]] := by decide +kernel
  have hw : Words [4, 1] := fun x hx => by simp at hx; omega
  rw [m_law14_alive_eq, build_eq N (by omega) _ _ (by decide) (by decide), build_eq N (by omega) _ _ (by decide) (by decide), g1, g2]
  simp only [ob]
  rw [head_eq N (by omega) _ _ _ (by decide) (by decide), walk_eq N (by omega) _ _ _ _ (by decide) (by decide), walk_eq N (by omega) _ _ _ _ (by decide) (by decide), level_eq N (by omega) _ _ _ _ (by decide) (by decide), heights_eq N (by omega) _ _ hw (by decide), tright_eq N (by omega) _ _ _ (by decide) (by decide), same_eq N (by omega) _ _ _ _ _ _ ⟨by decide, by decide, by decide, by decide⟩, g3, g4, g5, g6, g7]
  simp only [ob, nthI, ints_eq N (by omega) _ _ (show ([1] : List Int).length ≤ _ by decide), ints_eq N (by omega) _ _ (show ([2, 2, 1] : List Int).length ≤ _ by decide), ints_eq N (by omega) _ _ (show ([3, 1] : List Int).length ≤ _ by decide), ints_eq N (by omega) _ _ (show ([2, 1] : List Int).length ≤ _ by decide), ints_eq N (by omega) _ _ (show ([3, 0, 1] : List Int).length ≤ _ by decide), ints_eq N (by omega) _ _ (show ([1, 2] : List Int).length ≤ _ by decide), ints_eq N (by omega) _ _ (show ([3, 1, 1] : List Int).length ≤ _ by decide)]
  simp [g8, ob, ints_eq N (by omega) _ _ (show ([1] : List Int).length ≤ _ by decide), ints_eq N (by omega) _ _ (show ([2, 2, 1] : List Int).length ≤ _ by decide), ints_eq N (by omega) _ _ (show ([3, 1] : List Int).length ≤ _ by decide)]
theorem towerBuilds_eq (N : Nat) (hN : Fu + 11 ≤ N) (ts hs script : List Int) (h1 : ts.length ≤ 9223372036854775807) (h2 : hs.length ≤ 9223372036854775807) (hw : Words script) : m_law14_TowerBuilds N (ts, hs, script) = some true := by
  obtain ⟨N, rfl⟩ : ∃ n, N = n + 1 := ⟨N - 1, by omega⟩
  rw [m_law14_TowerBuilds_eq, alive_eq N (by omega), ob]
  simp only [Bool.not_true, cond_false]
  rw [cd]
  by_cases c1 : (60 : Int) < ts.length
  · rw [if_pos c1]
  rw [if_neg c1, cd]
  by_cases c2 : (60 : Int) < hs.length
  · rw [if_pos c2]
  rw [if_neg c2, build_eq N (by omega) ts hs h1 h2, rbuild_eq N (by omega) ts hs h1 h2, ob, ob, rsame_eq N (by omega) _ _ _ _ _ _ ?_, ob, heights_eq N (by omega) ts script hw (by omega), rheights_eq N (by omega) ts script hw (by omega), ob, ob, ints_eq N (by omega) _ _ (by simp; omega), ob]
  · simp
  · unfold buildOf
    by_cases h : TowR ts hs
    · rw [if_pos h]; exact build_lens h
    · rw [if_neg h]; exact ⟨by decide, by decide, by decide, by decide⟩
end Go.Proofs.YtmijkdlkhakmiaaDoor
