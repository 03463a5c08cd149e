/- The laws of rings, told plainly. -/
import Derived.Test.YtmijkdlkhakmiaaRingD
set_option linter.unusedVariables false
set_option linter.unusedSimpArgs false
namespace Go.Proofs.Ytmijkdlkhakmiaa
open Go Go.RowKit

theorem ints_same (N : Nat) (hN : Fu + 1 ≤ N) (a : List Int) (h : a.length ≤ 100000) : m_ref01_Ints N (a, a) = some true := by
  rw [ints_eq N hN a a (by omega)]; simp
theorem alive_c1 : cutOf [2, 3, 0, 1] 1 2 = (true, [3, 0, 1], [2]) := by decide +kernel
theorem alive_c2 : joinOf [3, 0, 1] 1 [2] 2 = (true, [0, 1, 2, 3]) := by decide +kernel
theorem alive_c3 : fromOf [2, 3, 0, 1] 0 = (true, [0, 1, 2, 3]) := by decide +kernel
theorem alive_c4 : nextOn [2, 3, 0, 1] 1 2 = (3, true) := by decide +kernel
theorem alive_c5 : joinOf [2, 3, 0, 1] 1 [3] 3 = (false, []) := by decide +kernel
theorem alive_c6 : sameOf [2, 3, 0, 1] [0, 1, 2, 3] = true := by decide +kernel
theorem alive_c7 : plainOf [2, 3, 0, 1] = [0, 1, 2, 3] := by decide +kernel
theorem alive_c8 : decide (RingR [2, 3, 0, 1]) = true := by decide +kernel
theorem alive_c9 : decide (RingR [1, 1]) = false := by decide +kernel
theorem alive_eq (N : Nat) (hN : Fu + 9 ≤ N) : m_law13_alive N () = some true := by
  obtain ⟨N, rfl⟩ : ∃ n, N = n + 1 := ⟨N - 1, by omega⟩
  rw [m_law13_alive_eq, cut_eq N (by omega) _ _ _ (by simp), alive_c1, ob]
  simp only
  rw [join_eq N (by omega) _ _ _ _ (by simp) (by simp), alive_c2, ob, from_eq N (by omega) _ _ (by simp), alive_c3, ob, next_on_eq N (by omega) _ _ _ (by simp), alive_c4, ob, join_eq N (by omega) _ _ _ _ (by simp) (by simp), alive_c5, ob]
  simp only [cond_true, Bool.not_false]
  rw [ints_same N (by omega) _ (by simp), ob, cond_true, ints_same N (by omega) _ (by simp), ob, cond_true, ints_same N (by omega) _ (by simp), ob, cond_true]
  simp only [ob, decide_true, cond_true]
  rw [same_of N (by omega) _ _ (by simp) (by simp), alive_c6, ob, cond_true, ring_eq N (by omega) _ (by simp), alive_c8, ob, cond_true, ring_eq N (by omega) _ (by simp), alive_c9, ob, Bool.not_false, cond_true, plain_eq N (by omega) _ (by simp), alive_c7, ob, ints_same N (by omega) _ (by simp), ob]
theorem plain_lens (l : List Int) : (plainOf l).length ≤ 1000 := by
  unfold plainOf
  split
  · rename_i h; rw [rotAt_len]; exact h.1.1
  · simp
theorem from_lens (l : List Int) (x : Int) : (fromOf l x).2.length ≤ 1000 := by
  unfold fromOf
  split
  · rename_i h; simp only; rw [rotAt_len]; exact h.1.1
  · simp
theorem join_lens (a : List Int) (x : Int) (b : List Int) (y : Int) : (joinOf a x b y).2.length ≤ 1000 := by
  unfold joinOf
  split
  · rename_i h; exact h.2.2.1
  · simp
theorem cut_lens (l : List Int) (x y : Int) : (cutOf l x y).2.1.length ≤ 2000 ∧ (cutOf l x y).2.2.length ≤ 2000 := by
  unfold cutOf
  split
  · rename_i h
    have := h.1.1
    split <;> constructor <;> simp <;> omega
  · simp
theorem ringAnswers_eq (N : Nat) (hN : Fu + 10 ≤ N) (a b : List Int) (x y : Int) (ha : a.length ≤ 9223372036854775807) (hb : b.length ≤ 9223372036854775807) : m_law13_RingAnswers N (a, b, x, y) = some true := by
  obtain ⟨N, rfl⟩ : ∃ n, N = n + 1 := ⟨N - 1, by omega⟩
  have c1 := cut_lens a x y
  have c2 := join_lens a x b y
  have c3 := from_lens a x
  have c4 := plain_lens a
  rw [m_law13_RingAnswers_eq, alive_eq N (by omega), ob, Bool.not_true, cond_false, cd]
  by_cases k1 : (60 : Int) < ((a.length : Nat) : Int)
  · rw [if_pos k1]
  rw [if_neg k1, cd]
  by_cases k2 : (60 : Int) < ((b.length : Nat) : Int)
  · rw [if_pos k2]
  rw [if_neg k2, join_eq N (by omega) a x b y ha hb, ob, rjoin_eq N (by omega) a x b y ha hb, ob, cut_eq N (by omega) a x y ha, ob, rcut_eq N (by omega) a x y ha, ob, from_eq N (by omega) a x ha, ob, rfrom_eq N (by omega) a x ha, ob, next_on_eq N (by omega) a x y ha, ob, rnext_on_eq N (by omega) a x y ha, ob, ints_same N (by omega) _ (by omega), ob, cond_true, beq_self_eq_true, cond_true, ints_same N (by omega) _ (by omega), ob, cond_true, ints_same N (by omega) _ (by omega), ob, cond_true, beq_self_eq_true, cond_true, ints_same N (by omega) _ (by omega), ob, cond_true, beq_self_eq_true, cond_true, decide_eq_true rfl, cond_true, beq_self_eq_true, cond_true, plain_eq N (by omega) a ha, ob, rplain_eq N (by omega) a ha, ob, ints_same N (by omega) _ (by omega), ob, cond_true, ring_eq N (by omega) a ha, ob, rring_eq N (by omega) a ha, ob, beq_self_eq_true, cond_true, same_of N (by omega) a b ha hb, ob, rsame_of N (by omega) a b ha hb, ob, beq_self_eq_true]
theorem same_true {a b : List Int} (h1 : RingR a) (h2 : RingR b) (h3 : plainOf a = plainOf b) : sameOf a b = true := decide_eq_true ⟨h1, h2, h3⟩
/-- one of a list, told by a number -/
theorem pick_of (l : List Int) (hl : l.length ≤ 1000) (h0 : 0 < l.length) (p : Int) (h1 : 0 ≤ p) (h2 : p ≤ 255) : ∃ z x, remI (IntKind.wrap .i64 p) ((l.length : Nat) : Int) = some z ∧ nthI l z = some x ∧ x ∈ l := by
  obtain ⟨p, rfl⟩ : ∃ q : Nat, p = (q : Int) := ⟨p.toNat, by omega⟩
  obtain ⟨x, hx⟩ := get_at (xs := l) (i := p % l.length) (Nat.mod_lt _ h0)
  exact ⟨((p % l.length : Nat) : Int), x, by rw [w64 (by omega) (by omega), rem_of (by omega), tmod_nat], nth_of hx, List.mem_of_getElem? hx⟩
theorem ringBack_eq (N : Nat) (hN : Fu + 10 ≤ N) (a b : List Int) (p q : Int) (ha : a.length ≤ 9223372036854775807) (hb : b.length ≤ 9223372036854775807) (hp : 0 ≤ p ∧ p ≤ 255) (hq : 0 ≤ q ∧ q ≤ 255) : m_law13_RingBack N (a, b, p, q) = some true := by
  obtain ⟨N, rfl⟩ : ∃ n, N = n + 1 := ⟨N - 1, by omega⟩
  rw [m_law13_RingBack_eq, alive_eq N (by omega), ob, Bool.not_true, cond_false, cd]
  by_cases k1 : (60 : Int) < ((a.length : Nat) : Int)
  · rw [if_pos k1]
  rw [if_neg k1, cd]
  by_cases k2 : (60 : Int) < ((b.length : Nat) : Int)
  · rw [if_pos k2]
  rw [if_neg k2, cd]
  by_cases k3 : ((a.length : Nat) : Int) = 0
  · rw [if_pos k3]
  rw [if_neg k3, cd]
  by_cases k4 : ((b.length : Nat) : Int) = 0
  · rw [if_pos k4]
  obtain ⟨z1, x, e1, e2, hx⟩ := pick_of a (by omega) (by omega) p hp.1 hp.2
  obtain ⟨z2, y, e3, e4, hy⟩ := pick_of b (by omega) (by omega) q hq.1 hq.2
  have hjl := join_lens a x b y
  rw [if_neg k4, e1, ob, e2, ob, e3, ob, e4, ob, join_eq N (by omega) a x b y ha hb, ob]
  by_cases c : (RingR a ∧ x ∈ a) ∧ (RingR b ∧ y ∈ b) ∧ RingR (insOf (plainOf a) (ix (plainOf a) x + 1) (rotAt b y))
  · obtain ⟨⟨c1, _⟩, ⟨c2, _⟩, c3⟩ := c
    obtain ⟨f1, f2⟩ := join_back c1 hx c2 hy c3
    have hr := rotAt_len b y
    rw [joinOf, if_pos ⟨⟨c1, hx⟩, ⟨c2, hy⟩, c3⟩]
    simp only [Bool.not_true, cond_false]
    rw [next_on_eq N (by omega) b y _ hb, ob, cut_eq N (by omega) _ _ _ (by rw [f2]; omega), f1, ob, from_eq N (by omega) b y hb, fromOf, if_pos ⟨c2, hy⟩, ob]
    have e5 : (nextOn b y (-1)).2 = true := by rw [nextOn, if_pos ⟨c2, hy⟩]
    rw [e5, cond_true]
    simp only [cond_true]
    rw [same_of N (by omega) _ _ (by have := plain_lens a; omega) ha, same_true (plain_ring c1) c1 (plain_plain c1), ob, cond_true, ints_same N (by omega) _ (by omega), ob, cond_true, w64 (by omega) (by omega), f2]
    simp
  · rw [joinOf, if_neg c]; rfl
theorem ringCuts_eq (N : Nat) (hN : Fu + 10 ≤ N) (l : List Int) (p q : Int) (hm : l.length ≤ 9223372036854775807) (hp : 0 ≤ p ∧ p ≤ 255) (hq : 0 ≤ q ∧ q ≤ 255) : m_law13_RingCuts N (l, p, q) = some true := by
  obtain ⟨N, rfl⟩ : ∃ n, N = n + 1 := ⟨N - 1, by omega⟩
  rw [m_law13_RingCuts_eq, alive_eq N (by omega), ob, Bool.not_true, cond_false, cd]
  by_cases k1 : (60 : Int) < ((l.length : Nat) : Int)
  · rw [if_pos k1]
  rw [if_neg k1, cd]
  by_cases k2 : ((l.length : Nat) : Int) = 0
  · rw [if_pos k2]
  rw [if_neg k2, rring_eq N (by omega) l hm, ob, cdn]
  by_cases c : ¬ RingR l
  · rw [if_neg c]
  have c := Decidable.not_not.1 c
  obtain ⟨z1, x, e1, e2, hx⟩ := pick_of l (by omega) (by omega) p hp.1 hp.2
  obtain ⟨z2, y, e3, e4, hy⟩ := pick_of l (by omega) (by omega) q hq.1 hq.2
  rw [if_pos c, e1, ob, e2, ob, e3, ob, e4, ob, cut_eq N (by omega) l x y hm, ob]
  by_cases cxy : x = y
  · subst cxy
    have hxl := ix_lt hx
    have hrl := rot_len l (ix l x + 1)
    have hlast : (rot l (ix l x + 1))[l.length - 1]? = some x := by
      rw [rot_get l (by omega) (by omega), show ix l x + 1 + (l.length - 1) = ix l x + l.length by omega, Nat.add_mod_right, Nat.mod_eq_of_lt hxl, ix_get hx]
    rw [cut_self c hx]
    simp only [Bool.not_true, cond_false, List.length_nil]
    rw [cdn, if_pos (by rw [w64 (by omega) (by omega)]; omega), cd, if_neg (by omega), w64 (by omega) (by omega), nth_at hlast (by omega), ob, ob]
    simp only [decide_true, Bool.not_true, cond_false]
    rw [same_of N (by omega) _ _ (by omega) hm, same_true (rot_ring.2 c) c (plain_rot c), ob]
    simp
  · obtain ⟨R, P, S, f1, f2, f3, f4, f5, f6, f7, f8⟩ := cut_form c hx hy cxy
    have hR : RingR R := ⟨by omega, f8, f2⟩
    have hRl := List.length_pos_of_mem f3
    have hrotl : RingR (rotAt l x) := rotAt_ring.2 c
    have hP : RingR (P ++ [y]) := by
      rw [f6] at hrotl
      refine ⟨by omega, fun t ht => hrotl.2.1 t (by simp at ht ⊢; rcases ht with ht | ht <;> simp [ht]), ?_⟩
      exact (List.nodup_append.1 (List.nodup_cons.1 hrotl.2.2).2).1
    have hPl : 0 < (P ++ [y]).length := by simp
    have hlast : (P ++ [y])[(P ++ [y]).length - 1]? = some y := by simp
    obtain ⟨z, hz⟩ := get_at (xs := P ++ [y]) (i := 0) hPl
    have hzm : z ∈ P ++ [y] := List.mem_of_getElem? hz
    have hpz : rotAt (P ++ [y]) z = P ++ [y] := by
      rw [rotAt, ix_at hP.2.2 hz, rot]; simp
    obtain ⟨U, T, g1, g2, g3, g4⟩ := join_form hR f3 hP hzm
    rw [hpz] at g3
    have hTU : T ++ U = S := by
      rw [f5] at g4
      exact (List.cons.inj g4).2.symm
    have hrj : rotAt (U ++ x :: (P ++ [y] ++ T)) x = rotAt l x := by
      rw [rotAt_mid g2, f6, ← hTU]; simp
    have hJ : RingR (U ++ x :: (P ++ [y] ++ T)) := by
      rw [← rotAt_ring (v := x), hrj]; exact hrotl
    have hnx : nextOn l x 1 = (z, true) := by
      rw [nextOn_rot c hx, f6]
      have h2 : 2 ≤ l.length := by omega
      have : ((1 : Int) % (l.length : Int)).toNat = 1 := by rw [Int.emod_eq_of_lt (by omega) (by omega)]; rfl
      rw [this, List.getD_eq_getElem?_getD, List.getElem?_cons_succ, List.getElem?_append_left hPl, hz]; rfl
    rw [f1]
    simp only [Bool.not_true, cond_false]
    rw [cdn, if_pos (by rw [w64 (by omega) (by omega)]; omega), cd, if_neg (by omega), w64 (by omega) (by omega), nth_at hlast (by omega), ob, ob, decide_eq_true rfl, Bool.not_true, cond_false, decide_eq_false cxy, decide_eq_false (show ¬ ((R.length : Nat) : Int) = 0 by omega)]
    simp only [beq_self_eq_true, Bool.not_true, cond_false]
    rw [show ((0 : Int) = ((0 : Nat) : Int)) from rfl, nth_of hz, ob, ob, join_eq N (by omega) R x (P ++ [y]) z (by omega) (by omega), joinOf, hpz, g3, if_pos ⟨⟨hR, f3⟩, ⟨hP, hzm⟩, hJ⟩, ob, next_on_eq N (by omega) l x 1 hm, hnx, ob]
    simp only [cond_true]
    rw [same_of N (by omega) _ _ (by have := hJ.1; omega) hm, same_true hJ c (plain_of_rotAt hJ c hrj), ob, cond_true, ob, ob, decide_eq_true rfl, cond_true, rplace_eq N (by omega) R x (by omega), ob, decide_eq_true (by exact ixI_sign.2 f3), cond_true, rplace_eq N (by omega) R y (by omega), ob, decide_eq_true (by exact ixI_lt.2 f4)]
theorem nextOn_at {l : List Int} {x b : Int} (h : RingR l) (hx : x ∈ l) : ∃ v, nextOn l x b = (v, true) ∧ v ∈ l ∧ (ix l v : Int) = ((ix l x : Int) + b) % (l.length : Int) ∧ l[(((ix l x : Int) + b) % (l.length : Int)).toNat]? = some v := by
  have hl := ix_lt hx
  have r0 := Int.emod_nonneg ((ix l x : Int) + b) (show (l.length : Int) ≠ 0 by omega)
  have r1 := Int.emod_lt_of_pos ((ix l x : Int) + b) (show (0 : Int) < (l.length : Int) by omega)
  obtain ⟨v, hv⟩ := get_at (xs := l) (i := (((ix l x : Int) + b) % (l.length : Int)).toNat) (by omega)
  refine ⟨v, ?_, List.mem_of_getElem? hv, ?_, hv⟩
  · rw [nextOn, if_pos ⟨h, hx⟩, List.getD_eq_getElem?_getD, hv]; rfl
  · rw [ix_at h.2.2 hv]; omega
theorem ringTurns_eq (N : Nat) (hN : Fu + 10 ≤ N) (l : List Int) (x b : Int) (hm : l.length ≤ 9223372036854775807) : m_law13_RingTurns N (l, x, b) = some true := by
  obtain ⟨N, rfl⟩ : ∃ n, N = n + 1 := ⟨N - 1, by omega⟩
  rw [m_law13_RingTurns_eq, alive_eq N (by omega), ob, Bool.not_true, cond_false, cd]
  by_cases k1 : (60 : Int) < ((l.length : Nat) : Int)
  · rw [if_pos k1]
  rw [if_neg k1, rring_eq N (by omega) l hm, ob, cdn]
  by_cases c : ¬ RingR l
  · rw [if_neg c]
  have c := Decidable.not_not.1 c
  rw [if_pos c, cd]
  by_cases k2 : ((l.length : Nat) : Int) = 0
  · rw [if_pos k2]
  rw [if_neg k2, from_eq N (by omega) l x hm, ob, next_on_eq N (by omega) l x b hm, ob]
  by_cases hx : ¬ x ∈ l
  · rw [fromOf, if_neg (fun h => hx h.2), nextOn, if_neg (fun h => hx h.2)]
    simp only [Bool.not_false, cond_true]
    rw [rplace_eq N (by omega) l x hm, ob, decide_eq_true (ixI_lt.2 hx)]
  have hx := Decidable.not_not.1 hx
  have hxl := ix_lt hx
  obtain ⟨v, e1, hv, e2, _⟩ := nextOn_at (b := b) c hx
  have hn : (0 : Int) < (l.length : Int) := by omega
  have t1 := Int.tmod_lt_of_pos b hn
  have t2 := Int.lt_tmod_of_pos b hn
  rw [fromOf, if_pos ⟨c, hx⟩, e1]
  simp only [Bool.not_true, cond_false, cond_true]
  have hback : (nextOn l v (-(b.tmod l.length))) = (x, true) := by
    obtain ⟨u, f1, _, _, f2⟩ := nextOn_at (b := -(b.tmod l.length)) c hv
    have : ((ix l v : Int) + -(b.tmod l.length)) % (l.length : Int) = (ix l x : Int) := by
      rw [e2]
      have q1 := Int.mul_tdiv_add_tmod b l.length
      have q2 := Int.mul_ediv_add_emod ((ix l x : Int) + b) l.length
      have q3 : ((ix l x : Int) + b) % (l.length : Int) + -(b.tmod l.length) = (ix l x : Int) + (l.length : Int) * (b.tdiv l.length - ((ix l x : Int) + b) / (l.length : Int)) := by
        rw [Int.mul_sub]; omega
      rw [q3, Int.add_mul_emod_self_left, Int.emod_eq_of_lt (by omega) (by omega)]
    rw [this, Int.toNat_natCast, ix_get hx] at f2
    rw [f1, ← Option.some.inj f2]
  have hround : nextOn l x (l.length : Int) = (x, true) := by
    obtain ⟨u, f1, _, _, f2⟩ := nextOn_at (b := (l.length : Int)) c hx
    rw [Int.add_emod_right, Int.emod_eq_of_lt (by omega) (by omega), Int.toNat_natCast, ix_get hx] at f2
    rw [f1, ← Option.some.inj f2]
  have hrl := rotAt_len l x
  rw [rem_of (by omega), ob, w64 (by omega) (by omega), show (0 : Int) - b.tmod ((l.length : Nat) : Int) = -(b.tmod l.length) by omega, next_on_eq N (by omega) l v _ hm, hback, ob, next_on_eq N (by omega) l x _ hm, hround, ob]
  simp only [cond_true]
  rw [decide_eq_true (show (((rotAt l x).length : Nat) : Int) = ((l.length : Nat) : Int) by omega), cond_true, show ((0 : Int) = ((0 : Nat) : Int)) from rfl, nth_of (rotAt_first hx), ob, ob, decide_eq_true rfl, cond_true, same_of N (by omega) _ _ (by omega) hm, same_true (rotAt_ring.2 c) c (plain_rot c), ob, cond_true, plain_eq N (by omega) _ (by omega), ob, plain_eq N (by omega) l hm, ob, show plainOf (rotAt l x) = plainOf l from plain_rot c, ints_same N (by omega) _ (by have := plain_lens l; omega), ob, cond_true]
  simp
theorem order_loop (N : Nat) (hN : Fu + 1 ≤ N) (a b J : List Int) (x y : Int) (ha : a.length ≤ 1000) (hJ : J.length ≤ 1000) : ∀ (k i m : Nat), i + k = J.length → k < m →
    l_law13_RingOrder_1 N m (a, b, x, y, (i : Int), J, (J.take i).filter (fun z => decide (z ∈ a)), (J.take i).filter (fun z => decide (z ∉ a))) = some (a, b, x, y, J, J.filter (fun z => decide (z ∈ a)), J.filter (fun z => decide (z ∉ a)))
  | k, i, 0, h1, h2 => by omega
  | 0, i, m + 1, h1, h2 => by
    rw [l_law13_RingOrder_1_s, cd, if_neg (by omega), List.take_of_length_le (by omega)]
  | k + 1, i, m + 1, h1, h2 => by
    obtain ⟨z, hz⟩ := get_at (xs := J) (i := i) (by omega)
    have hf1 := List.length_filter_le (fun z => decide (z ∈ a)) (J.take i)
    have hf2 := List.length_filter_le (fun z => decide (z ∉ a)) (J.take i)
    rw [List.length_take] at hf1 hf2
    have ih := order_loop N hN a b J x y ha hJ k (i + 1) m (by omega) (by omega)
    rw [take_at hz, List.filter_append, List.filter_append] at ih
    rw [l_law13_RingOrder_1_s, cd, if_pos (by omega), nth_of hz, ob, ob, rplace_eq N hN a z (by omega), ob, cd]
    by_cases c : z ∈ a
    · rw [if_pos (ixI_sign.2 c), ob, ob, app_of (by omega) (by rw [List.length_singleton]; omega), ob, w64n (by omega)]
      rw [List.filter_cons_of_pos (by simpa using c), List.filter_nil, List.filter_cons_of_neg (by simpa using c), List.filter_nil, List.append_nil] at ih
      exact ih
    · rw [if_neg (fun h => c (ixI_sign.1 h)), ob, ob, app_of (by omega) (by rw [List.length_singleton]; omega), ob, w64n (by omega)]
      rw [List.filter_cons_of_neg (by simpa using c), List.filter_nil, List.append_nil, List.filter_cons_of_pos (by simpa using c), List.filter_nil] at ih
      exact ih
theorem ringOrder_eq (N : Nat) (hN : Fu + 10 ≤ N) (a b : List Int) (p q : Int) (ha : a.length ≤ 9223372036854775807) (hb : b.length ≤ 9223372036854775807) (hp : 0 ≤ p ∧ p ≤ 255) (hq : 0 ≤ q ∧ q ≤ 255) : m_law13_RingOrder N (a, b, p, q) = some true := by
  obtain ⟨N, rfl⟩ : ∃ n, N = n + 1 := ⟨N - 1, by omega⟩
  rw [m_law13_RingOrder_eq, alive_eq N (by omega), ob, Bool.not_true, cond_false, cd]
  by_cases k1 : (60 : Int) < ((a.length : Nat) : Int)
  · rw [if_pos k1]
  rw [if_neg k1, cd]
  by_cases k2 : (60 : Int) < ((b.length : Nat) : Int)
  · rw [if_pos k2]
  rw [if_neg k2, cd]
  by_cases k3 : ((a.length : Nat) : Int) = 0
  · rw [if_pos k3]
  rw [if_neg k3, cd]
  by_cases k4 : ((b.length : Nat) : Int) = 0
  · rw [if_pos k4]
  obtain ⟨z1, x, e1, e2, hx⟩ := pick_of a (by omega) (by omega) p hp.1 hp.2
  obtain ⟨z2, y, e3, e4, hy⟩ := pick_of b (by omega) (by omega) q hq.1 hq.2
  rw [if_neg k4, e1, ob, e2, ob, e3, ob, e4, ob, join_eq N (by omega) a x b y ha hb, ob]
  by_cases c : (RingR a ∧ x ∈ a) ∧ (RingR b ∧ y ∈ b) ∧ RingR (insOf (plainOf a) (ix (plainOf a) x + 1) (rotAt b y))
  rotate_left
  · rw [joinOf, if_neg c]; rfl
  obtain ⟨⟨c1, _⟩, ⟨c2, _⟩, c3⟩ := c
  obtain ⟨U, T, g1, g2, g3, g4⟩ := join_form c1 hx c2 hy
  have hrl := rotAt_len b y
  have hral := rotAt_len a x
  rw [joinOf, if_pos ⟨⟨c1, hx⟩, ⟨c2, hy⟩, c3⟩]
  simp only [Bool.not_true, cond_false]
  rw [g3] at c3 ⊢
  have hJl : (U ++ x :: (rotAt b y ++ T)).length = a.length + b.length := by
    rw [g4] at hral
    simp at hral ⊢; omega
  have hrj : rotAt (U ++ x :: (rotAt b y ++ T)) x = x :: (rotAt b y ++ (T ++ U)) := by
    rw [rotAt_mid g2]; simp
  have hxJ : x ∈ U ++ x :: (rotAt b y ++ T) := by simp
  -- what is of a, and what is not
  have ina : ∀ z, z ∈ a ↔ z ∈ U ++ x :: T := fun z => by rw [← g1]; exact (plain_mem c1).symm
  have hnd := List.nodup_append.1 c3.2.2
  have hnd2 := List.nodup_cons.1 hnd.2.1
  have hnd3 := List.nodup_append.1 hnd2.2
  have outb : ∀ z ∈ rotAt b y, z ∉ a := fun z hz h => by
    rw [ina] at h
    rcases List.mem_append.1 h with h | h
    · exact hnd.2.2 z h z (by simp [hz]) rfl
    · rcases List.mem_cons.1 h with rfl | h
      · exact hnd2.1 (by simp [hz])
      · exact hnd3.2.2 z hz z h rfl
  have hf1 : (U ++ x :: (rotAt b y ++ T)).filter (fun z => decide (z ∈ a)) = plainOf a := by
    rw [show U ++ x :: (rotAt b y ++ T) = (U ++ [x]) ++ (rotAt b y ++ T) by simp, List.filter_append (U ++ [x]) _, List.filter_append (rotAt b y) T]
    rw [List.filter_eq_self.2 (show ∀ z ∈ U ++ [x], decide (z ∈ a) = true from fun z hz => decide_eq_true ((ina z).2 (by simp at hz ⊢; rcases hz with hz | hz <;> simp [hz]))), List.filter_eq_nil_iff.2 (show ∀ z ∈ rotAt b y, ¬ decide (z ∈ a) = true from fun z hz => by simpa using outb z hz), List.filter_eq_self.2 (show ∀ z ∈ T, decide (z ∈ a) = true from fun z hz => decide_eq_true ((ina z).2 (by simp [hz]))), g1]
    simp
  have hf2 : (U ++ x :: (rotAt b y ++ T)).filter (fun z => decide (z ∉ a)) = rotAt b y := by
    rw [show U ++ x :: (rotAt b y ++ T) = (U ++ [x]) ++ (rotAt b y ++ T) by simp, List.filter_append (U ++ [x]) _, List.filter_append (rotAt b y) T]
    rw [List.filter_eq_nil_iff.2 (show ∀ z ∈ U ++ [x], ¬ decide (z ∉ a) = true from fun z hz => by simpa using (ina z).2 (by simp at hz ⊢; rcases hz with hz | hz <;> simp [hz])), List.filter_eq_self.2 (show ∀ z ∈ rotAt b y, decide (z ∉ a) = true from fun z hz => decide_eq_true (outb z hz)), List.filter_eq_nil_iff.2 (show ∀ z ∈ T, ¬ decide (z ∉ a) = true from fun z hz => by simpa using (ina z).2 (by simp [hz]))]
    simp
  have eo := order_loop N (by omega) a b (U ++ x :: (rotAt b y ++ T)) x y (by omega) (by omega) (a.length + b.length) 0 N (by omega) (by have := Fu_eq; omega)
  rw [List.take_zero, List.filter_nil, List.filter_nil, show ((0 : Nat) : Int) = (0 : Int) from rfl, hf1, hf2] at eo
  rw [eo, ob]
  simp only
  have n1 : nextOn (U ++ x :: (rotAt b y ++ T)) x 1 = (y, true) := by
    rw [nextOn_rot c3 hxJ, hrj, hJl, show ((1 : Int) % ((a.length + b.length : Nat) : Int)).toNat = 1 by rw [Int.emod_eq_of_lt (by omega) (by omega)]; rfl, List.getD_eq_getElem?_getD, List.getElem?_cons_succ, List.getElem?_append_left (by omega), rotAt_first hy]; rfl
  have n2 : (nextOn (U ++ x :: (rotAt b y ++ T)) x ((b.length : Int) + 1)) = nextOn a x 1 := by
    rw [nextOn_rot c3 hxJ, hrj, hJl, nextOn_rot c1 hx, g4]
    rw [g4] at hral
    simp only [List.length_cons] at hral
    by_cases h1 : a.length = 1
    · have e0 : (T ++ U) = [] := List.eq_nil_of_length_eq_zero (by omega)
      rw [e0, h1, show (((b.length : Int) + 1) % ((1 + b.length : Nat) : Int)).toNat = 0 by rw [show ((1 + b.length : Nat) : Int) = (b.length : Int) + 1 by omega, Int.emod_self]; rfl]
      rfl
    · rw [show (((b.length : Int) + 1) % ((a.length + b.length : Nat) : Int)).toNat = b.length + 1 by rw [Int.emod_eq_of_lt (by omega) (by omega)]; omega, show ((1 : Int) % (a.length : Int)).toNat = 1 by rw [Int.emod_eq_of_lt (by omega) (by omega)]; rfl]
      simp only [List.getD_eq_getElem?_getD, List.getElem?_cons_succ]
      rw [List.getElem?_append_right (by omega), show b.length - (rotAt b y).length = 0 by omega]
  have e5 : (nextOn a x 1).2 = true := by rw [nextOn, if_pos ⟨c1, hx⟩]
  rw [next_on_eq N (by omega) _ _ _ (by omega), n1, ob, w64 (by omega) (by omega), next_on_eq N (by omega) _ _ _ (by omega), n2, ob, next_on_eq N (by omega) a x 1 ha, ob, e5]
  simp only [cond_true, decide_true]
  rw [same_of N (by omega) _ _ (by have := plain_lens a; omega) ha, same_true (plain_ring c1) c1 (plain_plain c1), ob, cond_true, same_of N (by omega) _ _ (by omega) hb, same_true (rotAt_ring.2 c2) c2 (plain_rot c2), ob]
end Go.Proofs.Ytmijkdlkhakmiaa
