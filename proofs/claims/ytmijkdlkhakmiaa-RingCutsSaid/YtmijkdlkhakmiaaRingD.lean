/- Rings, cut; so many places on. -/
import Derived.Test.YtmijkdlkhakmiaaRingC
set_option linter.unusedVariables false
set_option linter.unusedSimpArgs false
namespace Go.Proofs.Ytmijkdlkhakmiaa
open Go Go.RowKit

theorem cut_eq (N : Nat) (hN : Fu + 5 ≤ N) (l : List Int) (x y : Int) (hm : l.length ≤ 9223372036854775807) : m_ring_Cut N (l, x, y) = some (cutOf l x y) := by
  obtain ⟨N, rfl⟩ : ∃ n, N = n + 1 := ⟨N - 1, by omega⟩
  rw [m_ring_Cut_eq, places_eq N (by omega) l [x, y] hm (by simp), ob, cutOf]
  by_cases c : ¬ RingR l
  · rw [if_neg c, if_neg (fun h => c h.1)]; rfl
  have c := Decidable.not_not.1 c
  have hl := c.1
  rw [if_pos c]
  by_cases c2 : ¬ (x ∈ l ∧ y ∈ l)
  · have e : decide (∀ t ∈ [x, y], t ∈ l) = false := by simpa using c2
    rw [e, if_neg (fun h => c2 h.2)]; rfl
  have c2 := Decidable.not_not.1 c2
  have e : decide (∀ t ∈ [x, y], t ∈ l) = true := by simpa using c2
  have hx := ix_lt c2.1
  have hy := ix_lt c2.2
  have em : [x, y].map (ixI l) = [(ix l x : Int), (ix l y : Int)] := by simp [ixI_pos c2.1, ixI_pos c2.2]
  have n0 : nthI [(ix l x : Int), (ix l y : Int)] (0 : Int) = some (ix l x : Int) := rfl
  have n1 : nthI [(ix l x : Int), (ix l y : Int)] (1 : Int) = some (ix l y : Int) := rfl
  rw [e, em, if_pos ⟨c, c2⟩]
  simp only [Bool.not_true, cond_false, n0, n1, ob]
  rw [w64n (by omega), w64n (by omega), cd]
  by_cases c3 : ix l x < ix l y
  · rw [if_pos (by omega), if_pos c3, sub_take (by omega) (by omega), ob, sub_drop (by omega) (by omega), ob, Int.toNat_natCast, Int.toNat_natCast, concat_eq N (by omega) _ _ (by simp; omega) (by simp; omega), ob, sub_of (by omega) (by omega) (by omega), ob, Int.toNat_natCast, Int.toNat_natCast, clone_eq N (by omega) _ (by simp; omega), ob]
  · rw [if_neg (by omega), if_neg c3, sub_of (by omega) (by omega) (by omega), ob, Int.toNat_natCast, Int.toNat_natCast, clone_eq N (by omega) _ (by simp; omega), ob, sub_drop (by omega) (by omega), ob, sub_take (by omega) (by omega), ob, Int.toNat_natCast, Int.toNat_natCast, concat_eq N (by omega) _ _ (by simp; omega) (by simp; omega), ob]
theorem rcut1 (N : Nat) (hN : Fu + 1 ≤ N) (l : List Int) (x y : Int) (h : RingR l) (hx : x ∈ l) (hy : y ∈ l) : ∀ (q e m : Nat), e + q = ix (rot l (ix l x + 1)) y → q < m →
    l_ref13_Cut_1 N m (l, x, y, ((l.length : Nat) : Int), ((e + 1 : Nat) : Int), (rot l (ix l x + 1)).take e) = some (l, ((l.length : Nat) : Int), (rot l (ix l x + 1)).take (ix (rot l (ix l x + 1)) y + 1))
  | q, e, 0, h1, h2 => by omega
  | q, e, m + 1, h1, h2 => by
    have hxl := ix_lt hx
    have hyr : y ∈ rot l (ix l x + 1) := rot_mem.2 hy
    have hyl := ix_lt hyr
    rw [rot_len] at hyl
    have hl := h.1
    obtain ⟨z, hz⟩ := get_at (xs := rot l (ix l x + 1)) (i := e) (by rw [rot_len]; omega)
    have hz2 := hz
    rw [rot_get l (by omega) (by omega)] at hz2
    rw [l_ref13_Cut_1_s, cd, if_pos (by omega), rplace_eq N hN l x (by omega), ob, ixI_pos hx, ← Int.natCast_add, w64 (by omega) (by omega), rem_of (by omega), ob, tmod_nat, show ix l x + (e + 1) = ix l x + 1 + e by omega, nth_of hz2, ob, app_of (by omega) (by simp [rot_len]; omega), ob, cd, ← take_at hz, w64n (by omega)]
    by_cases c : z = y
    · subst c
      have := ix_at (rot_nodup.2 h.2.2) hz
      rw [if_pos rfl, this]
    · rw [if_neg c]
      have hne : e ≠ ix (rot l (ix l x + 1)) y := fun e2 => c (by
        have := ix_get hyr
        rw [← e2, hz] at this
        exact Option.some.inj this)
      cases q with
      | zero => omega
      | succ q => exact rcut1 N hN l x y h hx hy q (e + 1) m (by omega) (by omega)
theorem rcut2 (N : Nat) (hN : Fu + 1 ≤ N) (l part : List Int) (hl : l.length ≤ 1000) (hp : part.length ≤ 1000) : ∀ (k i m : Nat), i + k = l.length → k < m →
    l_ref13_Cut_2 N m (l, ((l.length : Nat) : Int), (i : Int), (l.take i).filter (fun z => decide (z ∉ part)), part) = some (l.filter (fun z => decide (z ∉ part)), part)
  | k, i, 0, h1, h2 => by omega
  | 0, i, m + 1, h1, h2 => by
    rw [l_ref13_Cut_2_s, cd, if_neg (by omega), List.take_of_length_le (by omega)]
  | k + 1, i, m + 1, h1, h2 => by
    obtain ⟨x, hx⟩ := get_at (xs := l) (i := i) (by omega)
    have hfl := List.length_filter_le (fun z => decide (z ∉ part)) (l.take i)
    rw [List.length_take] at hfl
    rw [l_ref13_Cut_2_s, cd, if_pos (by omega), nth_of hx, ob, rplace_eq N hN part x (by omega), ob, cd, ob, app_of (by omega) (by rw [List.length_singleton]; omega), ob, w64n (by omega)]
    have ih := rcut2 N hN l part hl hp k (i + 1) m (by omega) (by omega)
    rw [take_at hx, List.filter_append] at ih
    by_cases c : x ∉ part
    · rw [if_pos (ixI_lt.2 c)]
      rw [List.filter_cons_of_pos (by simpa using c), List.filter_nil] at ih
      exact ih
    · rw [if_neg (fun h => c (ixI_lt.1 h))]
      rw [List.filter_cons_of_neg (by simpa using c), List.filter_nil, List.append_nil] at ih
      exact ih
theorem filt_out {A part : List Int} (h : ∀ z ∈ A, z ∉ part) : A.filter (fun z => decide (z ∉ part)) = A := List.filter_eq_self.2 fun z hz => by simpa using h z hz
theorem filt_in {A part : List Int} (h : ∀ z ∈ A, z ∈ part) : A.filter (fun z => decide (z ∉ part)) = [] := List.filter_eq_nil_iff.2 fun z hz => by simpa using h z hz
theorem rcut_parts {l : List Int} {x y : Int} (h : RingR l) (hx : x ∈ l) (hy : y ∈ l) :
    cutOf l x y = (true, l.filter (fun z => decide (z ∉ (rot l (ix l x + 1)).take (ix (rot l (ix l x + 1)) y + 1))), (rot l (ix l x + 1)).take (ix (rot l (ix l x + 1)) y + 1)) := by
  by_cases c : x = y
  · subst c
    obtain ⟨u, t, e, h1, h2⟩ := ix_split hx
    have hn := nodup_parts (e ▸ h.2.2)
    have hrot : rot l (ix l x + 1) = (t ++ u) ++ [x] := by
      rw [h2, e, show u ++ x :: t = (u ++ [x]) ++ t by simp, show u.length + 1 = (u ++ [x]).length by simp, rot_app]; simp
    rw [cut_self h hx, hrot, ix_mid (u := t ++ u) (t := []) (by simp [hn.1, hn.2]), List.take_of_length_le (by simp; omega)]
    refine Prod.ext rfl (Prod.ext ?_ rfl)
    simp only
    rw [filt_in]
    intro z hz
    rw [e] at hz
    simp at hz ⊢
    rcases hz with hz | hz | hz <;> simp [hz]
  obtain ⟨u, t, e, h1, h2⟩ := ix_split hx
  have hn := nodup_parts (e ▸ h.2.2)
  have hnd := List.nodup_append.1 (e ▸ h.2.2 : (u ++ x :: t).Nodup)
  have hrot : rot l (ix l x + 1) = t ++ u ++ [x] := by
    rw [h2, e, show u ++ x :: t = (u ++ [x]) ++ t by simp, show u.length + 1 = (u ++ [x]).length by simp, rot_app]; simp
  rw [cutOf, if_pos ⟨h, hx, hy⟩, hrot]
  by_cases hyu : y ∈ u
  · obtain ⟨a, b, e2, k1, k2⟩ := ix_split hyu
    have hyx : ix l y = a.length := by rw [e, ix_app1 _ hyu, k2]
    have hyt : y ∉ t := fun ht => hnd.2.2 y hyu y (by simp [ht]) rfl
    have hbn := nodup_parts (e2 ▸ hnd.1)
    have hda := List.nodup_append.1 (e2 ▸ hnd.1 : (a ++ y :: b).Nodup)
    have e3 : ix (t ++ u ++ [x]) y = (t ++ a).length := by
      rw [e2, show t ++ (a ++ y :: b) ++ [x] = (t ++ a) ++ y :: (b ++ [x]) by simp, ix_mid (by simp [hyt, k1])]
    have e4 : (t ++ u ++ [x]).take ((t ++ a).length + 1) = t ++ a ++ [y] := by
      rw [e2, show t ++ (a ++ y :: b) ++ [x] = (t ++ a ++ [y]) ++ (b ++ [x]) by simp, List.take_left' (by simp; omega)]
    rw [h2, hyx, if_neg (by rw [e2]; simp), e3, e4]
    refine Prod.ext rfl (Prod.ext ?_ ?_)
    · simp only
      rw [e, e2, show a ++ y :: b ++ x :: t = (a ++ [y]) ++ (b ++ [x]) ++ t by simp, List.take_left' (by simp; omega), List.drop_left' (by simp), List.filter_append, List.filter_append, filt_in (A := a ++ [y]) (by intro z hz; simp at hz ⊢; rcases hz with hz | hz <;> simp [hz]), filt_in (A := t) (by intro z hz; simp [hz]), filt_out (A := b ++ [x])]
      · simp
      · intro z hz hz2
        simp only [List.mem_append, List.mem_singleton] at hz hz2
        rcases hz with hz | rfl
        · rcases hz2 with (hz2 | hz2) | rfl
          · exact hnd.2.2 z (by rw [e2]; simp [hz]) z (by simp [hz2]) rfl
          · exact hda.2.2 z hz2 z (by simp [hz]) rfl
          · exact hbn.2 hz
        · rcases hz2 with (hz2 | hz2) | rfl
          · exact hn.2 hz2
          · exact hn.1 (by rw [e2]; simp [hz2])
          · exact c rfl
    · simp only
      rw [e, e2, show a ++ y :: b ++ x :: t = (a ++ [y] ++ (b ++ [x])) ++ t by simp, List.drop_left' (by simp; omega), show a ++ [y] ++ (b ++ [x]) ++ t = (a ++ [y]) ++ (b ++ [x] ++ t) by simp, List.take_left' (by simp)]
      simp
  · have hyt : y ∈ t := by
      rw [e] at hy
      rcases List.mem_append.1 hy with hy | hy
      · exact absurd hy hyu
      · exact (List.mem_cons.1 hy).resolve_left fun e => c e.symm
    obtain ⟨a, b, e2, k1, k2⟩ := ix_split hyt
    have hyx : ix l y = u.length + 1 + a.length := by rw [e, ix_app2 _ hyu, ix, if_neg c, k2]; omega
    have ht := (List.nodup_cons.1 hnd.2.1).2
    have hbn := nodup_parts (e2 ▸ ht)
    have hda := List.nodup_append.1 (e2 ▸ ht : (a ++ y :: b).Nodup)
    have e3 : ix (t ++ u ++ [x]) y = a.length := by
      rw [e2, show (a ++ y :: b) ++ u ++ [x] = a ++ y :: (b ++ u ++ [x]) by simp, ix_mid k1]
    have e4 : (t ++ u ++ [x]).take (a.length + 1) = a ++ [y] := by
      rw [e2, show (a ++ y :: b) ++ u ++ [x] = (a ++ [y]) ++ (b ++ u ++ [x]) by simp, List.take_left' (by simp)]
    rw [h2, hyx, if_pos (by omega), e3, e4]
    refine Prod.ext rfl (Prod.ext ?_ ?_)
    · simp only
      rw [e, e2, show u ++ x :: (a ++ y :: b) = (u ++ [x]) ++ (a ++ [y]) ++ b by simp, List.drop_left' (by simp; omega), show u ++ [x] ++ (a ++ [y]) ++ b = (u ++ [x]) ++ ((a ++ [y]) ++ b) by simp, List.take_left' (by simp), List.filter_append (u ++ [x]) _, List.filter_append (a ++ [y]) b, filt_in (A := a ++ [y]) (by intro z hz; exact hz), filt_out (A := u ++ [x]), filt_out (A := b)]
      · simp
      · intro z hz hz2
        simp only [List.mem_append, List.mem_singleton] at hz2
        rcases hz2 with hz2 | rfl
        · exact hda.2.2 z hz2 z (by simp [hz]) rfl
        · exact hbn.2 hz
      · intro z hz hz2
        simp only [List.mem_append, List.mem_singleton] at hz hz2
        rcases hz with hz | rfl
        · rcases hz2 with hz2 | rfl
          · exact hnd.2.2 z hz z (by rw [e2]; simp [hz2]) rfl
          · exact hyu hz
        · rcases hz2 with hz2 | rfl
          · exact hn.2 (by rw [e2]; simp [hz2])
          · exact c rfl
    · simp only
      rw [e, e2, show u ++ x :: (a ++ y :: b) = (u ++ [x] ++ (a ++ [y])) ++ b by simp, List.take_left' (by simp; omega), List.drop_left' (by simp)]
theorem rcut_eq (N : Nat) (hN : Fu + 5 ≤ N) (l : List Int) (x y : Int) (hm : l.length ≤ 9223372036854775807) : m_ref13_Cut N (l, x, y) = some (cutOf l x y) := by
  obtain ⟨N, rfl⟩ : ∃ n, N = n + 1 := ⟨N - 1, by omega⟩
  rw [m_ref13_Cut_eq, rring_eq N (by omega) l hm, ob, cdn]
  by_cases c : ¬ RingR l
  · rw [if_neg c, cutOf, if_neg (fun h => c h.1)]
  have c := Decidable.not_not.1 c
  rw [if_pos c, rplace_eq N (by omega) l x hm, ob, cd]
  by_cases cx : ¬ x ∈ l
  · rw [if_pos (ixI_lt.2 cx), cutOf, if_neg (fun h => cx h.2.1)]
  have cx := Decidable.not_not.1 cx
  rw [if_neg (fun h => ixI_lt.1 h cx), rplace_eq N (by omega) l y hm, ob, cd]
  by_cases cy : ¬ y ∈ l
  · rw [if_pos (ixI_lt.2 cy), cutOf, if_neg (fun h => cy h.2.2)]
  have cy := Decidable.not_not.1 cy
  have hl := c.1
  have hd := ix_le (rot l (ix l x + 1)) y
  rw [rot_len] at hd
  have e1 := rcut1 N (by omega) l x y c cx cy (ix (rot l (ix l x + 1)) y) 0 N (by omega) (by have := Fu_eq; omega)
  have e2 := rcut2 N (by omega) l ((rot l (ix l x + 1)).take (ix (rot l (ix l x + 1)) y + 1)) hl (by simp [rot_len]; omega) l.length 0 N (by omega) (by have := Fu_eq; omega)
  rw [List.take_zero, show ((0 + 1 : Nat) : Int) = (1 : Int) from rfl] at e1
  rw [List.take_zero, List.filter_nil, show ((0 : Nat) : Int) = (0 : Int) from rfl] at e2
  rw [if_neg (fun h => ixI_lt.1 h cy), e1, ob]
  simp only
  rw [e2, ob, rcut_parts c cx cy]
/-! so many places on -/
theorem mod_of (n : Nat) (hn : 0 < n) (i : Nat) (hi : i < n) (b : Int) : ((((i : Int) + b.tmod n).tmod n + n).tmod n = ((i : Int) + b) % n) ∧ (((i : Int) + b.tmod n).tmod n < 0 → ((i : Int) + b.tmod n).tmod n + n = ((i : Int) + b) % n) ∧ (0 ≤ ((i : Int) + b.tmod n).tmod n → ((i : Int) + b.tmod n).tmod n = ((i : Int) + b) % n) ∧ -(n : Int) < b.tmod n ∧ b.tmod n < n := by
  have hn' : (0 : Int) < (n : Int) := by omega
  have h1 : b.tmod n < n := Int.tmod_lt_of_pos b hn'
  have h2 : -(n : Int) < b.tmod n := by
    have := Int.lt_tmod_of_pos b hn'
    exact this
  have h3 : ((i : Int) + b) % n = ((i : Int) + b.tmod n) % n := by
    have := Int.mul_tdiv_add_tmod b n
    rw [← this, show (i : Int) + ((n : Int) * b.tdiv n + b.tmod n) = ((i : Int) + b.tmod n) + (n : Int) * b.tdiv n by omega, Int.add_mul_emod_self_left]
    rw [this]
  generalize b.tmod n = t at *
  rw [h3]
  have key : ((i : Int) + t).tmod n = if 0 ≤ (i : Int) + t then ((i : Int) + t) % n else (i : Int) + t := by
    split
    · rw [Int.tmod_eq_emod_of_nonneg (by assumption)]
    · rename_i h
      have : (i : Int) + t = -(-((i : Int) + t)) := by omega
      rw [this, Int.neg_tmod, Int.tmod_eq_of_lt (by omega) (by omega)]
  rw [key]
  by_cases h : 0 ≤ (i : Int) + t
  · have a1 := Int.emod_nonneg ((i : Int) + t) (show (n : Int) ≠ 0 by omega)
    have a2 := Int.emod_lt_of_pos ((i : Int) + t) hn'
    rw [if_pos h]
    refine ⟨?_, fun h => by omega, fun _ => rfl, h2, h1⟩
    rw [Int.tmod_eq_emod_of_nonneg (by omega), Int.add_emod_right, Int.emod_emod_of_dvd _ (Int.dvd_refl _)]
  · rw [if_neg h]
    have e : ((i : Int) + t) % n = (i : Int) + t + n := by
      rw [← Int.add_emod_right, Int.emod_eq_of_lt (by omega) (by omega)]
    rw [e]
    exact ⟨Int.tmod_eq_of_lt (by omega) (by omega), fun _ => rfl, fun h => by omega, h2, h1⟩
theorem next_on_eq (N : Nat) (hN : Fu + 5 ≤ N) (l : List Int) (x b : Int) (hm : l.length ≤ 9223372036854775807) : m_ring_Next N (l, x, b) = some (nextOn l x b) := by
  obtain ⟨N, rfl⟩ : ∃ n, N = n + 1 := ⟨N - 1, by omega⟩
  rw [m_ring_Next_eq, places_eq N (by omega) l [x] hm (by simp), ob, nextOn]
  by_cases c : ¬ RingR l
  · rw [if_neg c, if_neg (fun h => c h.1)]; rfl
  have c := Decidable.not_not.1 c
  rw [if_pos c]
  by_cases c2 : ¬ x ∈ l
  · have e : decide (∀ t ∈ [x], t ∈ l) = false := by simp [c2]
    rw [e, if_neg (fun h => c2 h.2)]; rfl
  have c2 := Decidable.not_not.1 c2
  have hl := c.1
  have hx := ix_lt c2
  have e : (decide (∀ t ∈ [x], t ∈ l), [x].map (ixI l)) = (true, [(ix l x : Int)]) := by simp [c2, ixI_pos c2]
  have n0 : nthI [(ix l x : Int)] (0 : Int) = some (ix l x : Int) := rfl
  obtain ⟨k1, _, _, k4, k5⟩ := mod_of l.length (by omega) (ix l x) hx b
  have r0 := Int.emod_nonneg ((ix l x : Int) + b) (show (l.length : Int) ≠ 0 by omega)
  have r1 := Int.emod_lt_of_pos ((ix l x : Int) + b) (show (0 : Int) < (l.length : Int) by omega)
  have t1 := Int.tmod_lt_of_pos ((ix l x : Int) + b.tmod l.length) (show (0 : Int) < (l.length : Int) by omega)
  have t2 := Int.lt_tmod_of_pos ((ix l x : Int) + b.tmod l.length) (show (0 : Int) < (l.length : Int) by omega)
  rw [e, if_pos ⟨c, c2⟩]
  simp only [Bool.not_true, cond_false, n0, ob]
  rw [rem_of (by omega), ob, w64 (by omega) (by omega), rem_of (by omega), ob, w64 (by omega) (by omega), rem_of (by omega), ob, k1]
  obtain ⟨z, hz⟩ := get_at (xs := l) (i := (((ix l x : Int) + b) % (l.length : Int)).toNat) (by omega)
  rw [nth_at hz (by omega), ob, List.getD_eq_getElem?_getD, hz]; rfl
theorem rnext_on_eq (N : Nat) (hN : Fu + 5 ≤ N) (l : List Int) (x b : Int) (hm : l.length ≤ 9223372036854775807) : m_ref13_Next N (l, x, b) = some (nextOn l x b) := by
  obtain ⟨N, rfl⟩ : ∃ n, N = n + 1 := ⟨N - 1, by omega⟩
  rw [m_ref13_Next_eq, rplace_eq N (by omega) l x hm, ob, rring_eq N (by omega) l hm, ob, cdn, nextOn]
  by_cases c : ¬ RingR l
  · rw [if_neg c, if_neg (fun h => c h.1)]
  have c := Decidable.not_not.1 c
  rw [if_pos c, cd]
  by_cases c2 : ¬ x ∈ l
  · rw [if_pos (ixI_lt.2 c2), if_neg (fun h => c2 h.2)]
  have c2 := Decidable.not_not.1 c2
  have hl := c.1
  have hx := ix_lt c2
  obtain ⟨_, k2, k3, k4, k5⟩ := mod_of l.length (by omega) (ix l x) hx b
  have r0 := Int.emod_nonneg ((ix l x : Int) + b) (show (l.length : Int) ≠ 0 by omega)
  have r1 := Int.emod_lt_of_pos ((ix l x : Int) + b) (show (0 : Int) < (l.length : Int) by omega)
  have t1 := Int.tmod_lt_of_pos ((ix l x : Int) + b.tmod l.length) (show (0 : Int) < (l.length : Int) by omega)
  have t2 := Int.lt_tmod_of_pos ((ix l x : Int) + b.tmod l.length) (show (0 : Int) < (l.length : Int) by omega)
  rw [if_neg (fun h => ixI_lt.1 h c2), if_pos ⟨c, c2⟩, ixI_pos c2, rem_of (by omega), ob, w64 (by omega) (by omega), rem_of (by omega), ob, cd]
  obtain ⟨z, hz⟩ := get_at (xs := l) (i := (((ix l x : Int) + b) % (l.length : Int)).toNat) (by omega)
  by_cases c3 : ((ix l x : Int) + b.tmod l.length).tmod l.length < 0
  · rw [if_pos c3, w64 (by omega) (by omega), k2 c3, nth_at hz (by omega), ob, List.getD_eq_getElem?_getD, hz]; rfl
  · rw [if_neg c3, k3 (by omega), nth_at hz (by omega), ob, List.getD_eq_getElem?_getD, hz]; rfl
end Go.Proofs.Ytmijkdlkhakmiaa
