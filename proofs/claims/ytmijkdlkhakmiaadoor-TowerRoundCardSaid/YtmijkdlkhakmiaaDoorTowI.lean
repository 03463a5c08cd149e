/- The law TowerRound, told plainly. -/
import Derived.Test.YtmijkdlkhakmiaaDoorTowG
set_option linter.unusedVariables false
set_option linter.unusedSimpArgs false
namespace Go.Proofs.YtmijkdlkhakmiaaDoor
open Go Go.RowKit

theorem lvN_mem {hs : List Int} {lv : Int} {n x : Nat} : x ∈ lvN hs lv n ↔ x < n ∧ lv < hAt hs x := by
  simp [lvN]
theorem lvN_lt {hs : List Int} {lv : Int} {n i j x y : Nat} (hx : (lvN hs lv n)[i]? = some x) (hy : (lvN hs lv n)[j]? = some y) (h : i < j) : x < y := by
  obtain ⟨h1, rfl⟩ := List.getElem?_eq_some_iff.1 hx
  obtain ⟨h2, rfl⟩ := List.getElem?_eq_some_iff.1 hy
  have hp : (lvN hs lv n).Pairwise (· < ·) := List.pairwise_lt_range.filter _
  exact List.pairwise_iff_getElem.1 hp i j h1 h2 h
theorem dist_uniq {hs : List Int} {i h d : Nat} (hi : i < hs.length) (hh : (h : Int) < hAt hs i) (h1 : 1 ≤ d) (h2 : (h : Int) < hAt hs ((i + d) % hs.length)) (h3 : ∀ e, 1 ≤ e → e < d → ¬ (h : Int) < hAt hs ((i + e) % hs.length)) : dist hs i h = d := by
  obtain ⟨a, b, c, e⟩ := dist_ok hi hh
  rcases Nat.lt_trichotomy (dist hs i h) d with k | k | k
  · exact absurd a (h3 _ b k)
  · exact k
  · exact absurd h2 (e d h1 k)
theorem link_next {hs : List Int} {h i x y : Nat} (hx : (lvN hs (h : Int) hs.length)[i]? = some x) (hy : (lvN hs (h : Int) hs.length)[(i + 1) % (lvN hs (h : Int) hs.length).length]? = some y) : linkOf hs x h = (y : Int) := by
  have hi := (List.getElem?_eq_some_iff.1 hx).1
  obtain ⟨x1, x2⟩ := lvN_mem.1 (List.mem_of_getElem? hx)
  obtain ⟨y1, y2⟩ := lvN_mem.1 (List.mem_of_getElem? hy)
  have key : ∀ e, e < hs.length → (h : Int) < hAt hs e → ∃ j, (lvN hs (h : Int) hs.length)[j]? = some e := fun e e1 e2 => List.getElem?_of_mem (lvN_mem.2 ⟨e1, e2⟩)
  unfold linkOf
  by_cases hl : i + 1 < (lvN hs (h : Int) hs.length).length
  · rw [Nat.mod_eq_of_lt hl] at hy
    have hlt := lvN_lt hx hy (by omega)
    have e1 : x + (y - x) = y := by omega
    rw [dist_uniq x1 x2 (d := y - x) (by omega) (by rw [e1, Nat.mod_eq_of_lt y1]; exact y2) fun e k1 k2 k3 => ?_, e1, Nat.mod_eq_of_lt y1]
    rw [Nat.mod_eq_of_lt (by omega)] at k3
    obtain ⟨j, hj⟩ := key (x + e) (by omega) k3
    rcases Nat.lt_trichotomy j (i + 1) with k | k | k
    · rcases Nat.lt_trichotomy j i with k' | k' | k'
      · have := lvN_lt hj hx k'; omega
      · subst k'; rw [hx] at hj; have := Option.some.inj hj; omega
      · omega
    · subst k; rw [hy] at hj; have := Option.some.inj hj; omega
    · have := lvN_lt hy hj k; omega
  · have hlast : i + 1 = (lvN hs (h : Int) hs.length).length := by omega
    rw [← hlast, Nat.mod_self] at hy
    have hle : y ≤ x := by
      rcases Nat.eq_zero_or_pos i with k | k
      · subst k; rw [hx] at hy; cases hy; omega
      · have := lvN_lt hy hx k; omega
    have e1 : (x + (hs.length - x + y)) % hs.length = y := by
      rw [show x + (hs.length - x + y) = y + hs.length by omega, Nat.add_mod_right, Nat.mod_eq_of_lt y1]
    rw [dist_uniq x1 x2 (d := hs.length - x + y) (by omega) (by rw [e1]; exact y2) fun e k1 k2 k3 => ?_, e1]
    by_cases hw : x + e < hs.length
    · rw [Nat.mod_eq_of_lt hw] at k3
      obtain ⟨j, hj⟩ := key (x + e) hw k3
      have hj1 := (List.getElem?_eq_some_iff.1 hj).1
      rcases Nat.lt_trichotomy j i with k' | k' | k'
      · have := lvN_lt hj hx k'; omega
      · subst k'; rw [hx] at hj; have := Option.some.inj hj; omega
      · omega
    · rw [show x + e = (x + e - hs.length) + hs.length by omega, Nat.add_mod_right, Nat.mod_eq_of_lt (by omega)] at k3
      obtain ⟨j, hj⟩ := key (x + e - hs.length) (by omega) k3
      rcases Nat.eq_zero_or_pos j with k | k
      · subst k; rw [hy] at hj; have := Option.some.inj hj; omega
      · have := lvN_lt hy hj k; omega
theorem round_loop (N : Nat) (hs t : List Int) (h : Nat) (hh : HighR hs) (hm : hs.length ≤ 1000) (hl : 0 < (lvN hs (h : Int) hs.length).length) : ∀ (q i m x : Nat), i + q = (lvN hs (h : Int) hs.length).length → q < m → (lvN hs (h : Int) hs.length)[i % (lvN hs (h : Int) hs.length).length]? = some x →
    ∃ y : Nat, (lvN hs (h : Int) hs.length)[0]? = some y ∧ l_law14_TowerRound_1 N m ((h : Int), (x : Int), (i : Int), t, hs, nextOf hs, lvOf hs (h : Int) hs.length) = some (.inl ((y : Int), lvOf hs (h : Int) hs.length))
  | q, i, 0, x, h1, h2, hx => by omega
  | 0, i, m + 1, x, h1, h2, hx => by
    have hlen : (lvOf hs (h : Int) hs.length).length = (lvN hs (h : Int) hs.length).length := by simp [lvOf]
    have : i = (lvN hs (h : Int) hs.length).length := by omega
    rw [this, Nat.mod_self] at hx
    refine ⟨x, hx, ?_⟩
    rw [l_law14_TowerRound_1_s, cd, if_neg (by omega)]
  | q + 1, i, m + 1, x, h1, h2, hx => by
    have hlen : (lvOf hs (h : Int) hs.length).length = (lvN hs (h : Int) hs.length).length := by simp [lvOf]
    have hll : (lvN hs (h : Int) hs.length).length ≤ hs.length := by have := lvOf_len hs (h : Int) hs.length; omega
    obtain ⟨y, hy⟩ := get_at (Nat.mod_lt (i + 1) hl)
    have hx0 := hx
    rw [Nat.mod_eq_of_lt (by omega)] at hx
    obtain ⟨x1, x2⟩ := lvN_mem.1 (List.mem_of_getElem? hx)
    have hlk := link_next hx hy
    obtain ⟨H, a1, a2, a3, a4, a5, a6, a7⟩ := top_links hh x1
    have hv : (lvOf hs (h : Int) hs.length)[i]? = some (x : Int) := by unfold lvOf; rw [List.getElem?_map, hx]; rfl
    have hn : (nextOf hs).length = hs.length := by simp [nextOf]
    have hz : (linksOf hs x)[h]? = some (y : Int) := by
      unfold linksOf
      rw [map_get _ _ _ (by omega), hlk]
    rw [l_law14_TowerRound_1_s, cd, if_pos (by omega), nth_of hv, ob, ob, cdn, if_pos rfl, cd, if_neg (by omega), nth_of a4, ob, cd, a5, if_neg (by omega), ob, nth_of hz, ob, w64n (by omega)]
    exact round_loop N hs t h hh hm hl q (i + 1) m y (by omega) (by omega) hy
theorem towerRound_eq (N : Nat) (hN : Fu + 11 ≤ N) (ts hs : List Int) (lv : Int) (h1 : ts.length ≤ 9223372036854775807) (h2 : hs.length ≤ 9223372036854775807) (h3 : 0 ≤ lv) (h4 : lv ≤ 255) : m_law14_TowerRound N (ts, hs, lv) = some true := by
  obtain ⟨N, rfl⟩ : ∃ n, N = n + 1 := ⟨N - 1, by omega⟩
  rw [m_law14_TowerRound_eq, alive_eq N (by omega), ob]
  simp only [Bool.not_true, cond_false]
  rw [cd]
  by_cases c1 : (60 : Int) < ts.length
  · rw [if_pos c1]
  rw [if_neg c1, cd]
  by_cases c2 : (60 : Int) < hs.length
  · rw [if_pos c2]
  rw [if_neg c2, build_eq N (by omega) ts hs h1 h2, ob]
  unfold buildOf
  by_cases hno : ¬ TowR ts hs
  · rw [if_neg hno]; rfl
  have h := Decidable.not_not.1 hno
  have hT : TowerR ts hs (nextOf hs) := ⟨h, rfl⟩
  obtain ⟨l1, l2, l3⟩ := towerR_len hT
  rw [if_pos h]
  simp only [decide_true, Bool.not_true, cond_false]
  obtain ⟨k, hk⟩ : ∃ k : Nat, Int.tmod (IntKind.wrap .i64 lv) 8 = (k : Int) := by
    obtain ⟨n, rfl⟩ : ∃ n : Nat, lv = (n : Int) := ⟨lv.toNat, by omega⟩
    refine ⟨n % 8, ?_⟩
    rw [w64 (by omega) (by omega)]
    exact tmod_nat n 8
  have hlv : levelOf ts hs (nextOf hs) (k : Int) = lvOf hs (k : Int) hs.length := if_pos hT
  have hlen : (lvOf hs (k : Int) hs.length).length = (lvN hs (k : Int) hs.length).length := by simp [lvOf]
  rw [hk, level_eq N (by omega) ts hs _ _ h1 h2, ob, hlv, cd]
  by_cases c3 : (lvN hs (k : Int) hs.length).length = 0
  · rw [if_pos (by omega)]
  have hpos : 0 < (lvN hs (k : Int) hs.length).length := by omega
  obtain ⟨x, hx⟩ := get_at hpos
  have hv : (lvOf hs (k : Int) hs.length)[0]? = some (x : Int) := by unfold lvOf; rw [List.getElem?_map, hx]; rfl
  have hll : (lvN hs (k : Int) hs.length).length ≤ hs.length := by have := lvOf_len hs (k : Int) hs.length; omega
  obtain ⟨y, hy, e⟩ := round_loop N hs ts k h.2.2.2 (by omega) hpos _ 0 N x (by rw [Nat.zero_add]) (by have := Fu_eq; omega) (by rw [Nat.zero_mod]; exact hx)
  rw [hx] at hy
  cases hy
  rw [if_neg (by omega), show ((0 : Int) = ((0 : Nat) : Int)) from rfl, nth_of hv, ob, ob, e, ob]
  simp only
  rw [nth_of hv, ob, ob]
  simp
end Go.Proofs.YtmijkdlkhakmiaaDoor
