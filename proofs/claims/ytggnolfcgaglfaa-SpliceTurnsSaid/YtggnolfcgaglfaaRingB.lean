/- Rings: what the laws say, told plainly. -/
import Derived.Test.YtggnolfcgaglfaaRingA
set_option linter.unusedVariables false
set_option linter.unusedSimpArgs false
namespace Go.Proofs.Ytggnolfcgaglfaa
open Go Go.RowKit

theorem rot_get (l : List Int) {p i : Nat} (hp : p ≤ l.length) (hi : i < l.length) : (rot l p)[i]? = l[(p + i) % l.length]? := by
  unfold rot
  by_cases c : p + i < l.length
  · rw [List.getElem?_append_left (by simp; omega), List.getElem?_drop, Nat.mod_eq_of_lt c]
  · rw [List.getElem?_append_right (by simp; omega), List.length_drop, Nat.mod_eq_sub_mod (by omega), Nat.mod_eq_of_lt (by omega), List.getElem?_take, if_pos (by omega)]
    congr 1; omega
/-- so many places on: of the ring that begins there -/
theorem nextOn_rot {l : List Int} {x : Int} (h : RingR l) (hx : x ∈ l) (by_ : Int) : nextOn l x by_ = ((rotAt l x).getD (by_ % (l.length : Int)).toNat 0, true) := by
  have hl := ix_lt hx
  have h1 := Int.emod_nonneg by_ (show (l.length : Int) ≠ 0 by omega)
  have h2 := Int.emod_lt_of_pos by_ (show (0 : Int) < (l.length : Int) by omega)
  rw [nextOn, if_pos ⟨h, hx⟩]
  congr 1
  rw [List.getD_eq_getElem?_getD, List.getD_eq_getElem?_getD, rotAt, rot_get l (Nat.le_of_lt hl) (by omega)]
  congr 2
  have e : ((ix l x : Int) + by_) % (l.length : Int) = (((ix l x + (by_ % (l.length : Int)).toNat) % l.length : Nat) : Int) := by
    rw [Int.natCast_emod, Int.natCast_add, Int.toNat_of_nonneg h1, Int.add_emod_emod]
  rw [e, Int.toNat_natCast]
theorem plain_of_rotAt {j l : List Int} {x : Int} (hj : RingR j) (hl : RingR l) (h : rotAt j x = rotAt l x) : plainOf j = plainOf l := by
  rw [← plain_rot (p := ix j x) hj, ← plain_rot (p := ix l x) hl]
  exact congrArg plainOf h
theorem nodup_parts {u t : List Int} {x : Int} (h : (u ++ x :: t).Nodup) : x ∉ u ∧ x ∉ t := by
  have := List.nodup_append.1 h
  exact ⟨fun e => this.2.2 x e x (by simp) rfl, (List.nodup_cons.1 this.2.1).1⟩
/-- what is joined -/
theorem join_form {a b : List Int} {x y : Int} (ha : RingR a) (hx : x ∈ a) (hb : RingR b) (hy : y ∈ b) : ∃ U T : List Int, plainOf a = U ++ x :: T ∧ x ∉ U ∧ insOf (plainOf a) (ix (plainOf a) x + 1) (rotAt b y) = U ++ x :: (rotAt b y ++ T) ∧ rotAt a x = x :: (T ++ U) := by
  have hp := (plain_mem ha).2 hx
  obtain ⟨U, T, e, h1, h2⟩ := ix_split hp
  refine ⟨U, T, e, h1, ?_, ?_⟩
  · unfold insOf
    rw [h2, e, show U ++ x :: T = (U ++ [x]) ++ T by simp, List.take_left' (by simp), List.drop_left' (by simp)]
    simp
  · have hne : a ≠ [] := List.ne_nil_of_mem hx
    have := rotAt_mid (t := T) h1
    rw [← e, plainOf_pos ha hne] at this
    unfold rotAt at this
    rw [show rot (rot a (ix a (minV a))) (ix (rot a (ix a (minV a))) x) = rotAt (rot a (ix a (minV a))) x from rfl, rotAt_rot ha.2.2 hx] at this
    rw [this]; simp
theorem join_back {a b : List Int} {x y : Int} (ha : RingR a) (hx : x ∈ a) (hb : RingR b) (hy : y ∈ b) (hj : RingR (insOf (plainOf a) (ix (plainOf a) x + 1) (rotAt b y))) :
    cutOf (insOf (plainOf a) (ix (plainOf a) x + 1) (rotAt b y)) x (nextOn b y (-1)).1 = (true, plainOf a, rotAt b y) ∧ (insOf (plainOf a) (ix (plainOf a) x + 1) (rotAt b y)).length = a.length + b.length := by
  obtain ⟨U, T, e, h1, h2, h3⟩ := join_form ha hx hb hy
  have hlb := List.length_pos_of_mem hy
  have hll := rotAt_len b y
  have hla : (plainOf a).length = a.length := plain_len ha
  rw [e] at hla
  rw [h2] at hj ⊢
  have hz : ∃ z, (rotAt b y)[b.length - 1]? = some z ∧ (nextOn b y (-1)).1 = z := by
    obtain ⟨z, hz⟩ := get_at (xs := rotAt b y) (i := b.length - 1) (by omega)
    refine ⟨z, hz, ?_⟩
    rw [nextOn_rot hb hy]
    have : ((-1 : Int) % (b.length : Int)).toNat = b.length - 1 := by
      have : (-1 : Int) % (b.length : Int) = ((b.length - 1 : Nat) : Int) := by
        rw [show (-1 : Int) = ((b.length - 1 : Nat) : Int) + (-1) * (b.length : Int) by omega, Int.add_mul_emod_self_right]
        exact Int.emod_eq_of_lt (by omega) (by omega)
      rw [this, Int.toNat_natCast]
    simp only
    rw [this, List.getD_eq_getElem?_getD, hz]; rfl
  obtain ⟨z, hz1, hz2⟩ := hz
  rw [hz2]
  have hx2 : ix (U ++ x :: (rotAt b y ++ T)) x = U.length := ix_mid h1
  have hz3 : ix (U ++ x :: (rotAt b y ++ T)) z = U.length + b.length := ix_at hj.2.2 (by
    rw [List.getElem?_append_right (by omega), show U.length + b.length - U.length = (b.length - 1) + 1 by omega, List.getElem?_cons_succ, List.getElem?_append_left (by omega), hz1])
  have hzm : z ∈ rotAt b y := List.mem_of_getElem? hz1
  refine ⟨?_, by simp [hll] at hla ⊢; omega⟩
  rw [cutOf, if_pos ⟨hj, by simp, by simp [hzm]⟩, hx2, hz3, if_pos (by omega), e]
  have e1 : U ++ x :: (rotAt b y ++ T) = (U ++ [x]) ++ (rotAt b y ++ T) := by simp
  have e2 : U ++ x :: (rotAt b y ++ T) = (U ++ [x] ++ rotAt b y) ++ T := by simp
  have t1 : (U ++ x :: (rotAt b y ++ T)).take (U.length + 1) = U ++ [x] := by rw [e1, List.take_left' (by simp)]
  have t2 : (U ++ x :: (rotAt b y ++ T)).drop (U.length + b.length + 1) = T := by rw [e2, List.drop_left' (by simp [hll]; omega)]
  have t3 : (U ++ x :: (rotAt b y ++ T)).take (U.length + b.length + 1) = U ++ [x] ++ rotAt b y := by rw [e2, List.take_left' (by simp [hll]; omega)]
  rw [t1, t2, t3, List.drop_left' (by simp)]
  simp
/-- what is cut -/
theorem cut_form {l : List Int} {x y : Int} (h : RingR l) (hx : x ∈ l) (hy : y ∈ l) (hne : x ≠ y) : ∃ R P S : List Int, cutOf l x y = (true, R, P ++ [y]) ∧ R.Nodup ∧ x ∈ R ∧ y ∉ R ∧ rotAt R x = x :: S ∧ rotAt l x = x :: (P ++ [y] ++ S) ∧ R.length + (P ++ [y]).length = l.length ∧ TokR R := by
  obtain ⟨u, t, e, h1, h2⟩ := ix_split hx
  have hn := nodup_parts (e ▸ h.2.2)
  have hr := rotAt_mid (t := t) h1
  rw [← e] at hr
  rw [cutOf, if_pos ⟨h, hx, hy⟩]
  have hyt : y ∈ u ∨ y ∈ t := by
    rw [e] at hy
    rcases List.mem_append.1 hy with hy | hy
    · exact .inl hy
    · exact .inr ((List.mem_cons.1 hy).resolve_left fun e => hne e.symm)
  have hnd := List.nodup_append.1 (e ▸ h.2.2 : (u ++ x :: t).Nodup)
  by_cases hyu : y ∈ u
  · -- y stands ahead of x
    obtain ⟨a, b, e2, k1, k2⟩ := ix_split hyu
    have hyx : ix l y = a.length := by rw [e, ix_app1 _ hyu, k2]
    have hbn := nodup_parts (e2 ▸ hnd.1)
    rw [h2, hyx, if_neg (by rw [e2]; simp)]
    refine ⟨b ++ [x], t ++ a, b, ?_, ?_, by simp, by simp [hbn.2, show ¬ y = x from fun e => hne e.symm], ?_, ?_, ?_, ?_⟩
    · rw [e, e2]
      have t1 : (a ++ y :: b ++ x :: t).take ((a ++ y :: b).length + 1) = a ++ [y] ++ (b ++ [x]) := by
        rw [show a ++ y :: b ++ x :: t = (a ++ [y] ++ (b ++ [x])) ++ t by simp, List.take_left' (by simp; omega)]
      have t2 : (a ++ y :: b ++ x :: t).drop ((a ++ y :: b).length + 1) = t := by
        rw [show a ++ y :: b ++ x :: t = (a ++ [y] ++ (b ++ [x])) ++ t by simp, List.drop_left' (by simp; omega)]
      have t3 : (a ++ y :: b ++ x :: t).take (a.length + 1) = a ++ [y] := by
        rw [show a ++ y :: b ++ x :: t = (a ++ [y]) ++ (b ++ x :: t) by simp, List.take_left' (by simp)]
      rw [t1, t2, t3, List.drop_left' (by simp)]
      simp
    · have : (a ++ y :: (b ++ x :: t)).Nodup := by have := h.2.2; rw [e, e2] at this; simpa using this
      have := (List.nodup_cons.1 (List.nodup_append.1 this).2.1).2
      rw [show b ++ x :: t = (b ++ [x]) ++ t by simp] at this
      exact (List.nodup_append.1 this).1
    · have hxb : x ∉ b := fun e' => h1 (by rw [e2]; simp [e'])
      have := rotAt_mid (t := []) hxb
      simpa using this
    · rw [hr, e2]; simp
    · rw [e, e2]; simp; omega
    · intro z hz
      exact h.2.1 z (by rw [e, e2]; simp at hz ⊢; rcases hz with hz | hz <;> simp [hz])
  · have hyt : y ∈ t := hyt.resolve_left hyu
    obtain ⟨a, b, e2, k1, k2⟩ := ix_split hyt
    have hyx : ix l y = u.length + 1 + a.length := by rw [e, ix_app2 _ hyu, ix, if_neg hne, k2]; omega
    have hbn := nodup_parts (e2 ▸ (List.nodup_cons.1 hnd.2.1).2)
    rw [h2, hyx, if_pos (by omega)]
    refine ⟨u ++ x :: b, a, b ++ u, ?_, ?_, by simp, by simp [hbn.2, hyu, show ¬ y = x from fun e => hne e.symm], ?_, ?_, ?_, ?_⟩
    · rw [e, e2]
      have t1 : (u ++ x :: (a ++ y :: b)).take (u.length + 1) = u ++ [x] := by
        rw [show u ++ x :: (a ++ y :: b) = (u ++ [x]) ++ (a ++ y :: b) by simp, List.take_left' (by simp)]
      have t2 : (u ++ x :: (a ++ y :: b)).drop (u.length + 1 + a.length + 1) = b := by
        rw [show u ++ x :: (a ++ y :: b) = (u ++ [x] ++ (a ++ [y])) ++ b by simp, List.drop_left' (by simp; omega)]
      have t3 : (u ++ x :: (a ++ y :: b)).take (u.length + 1 + a.length + 1) = u ++ [x] ++ (a ++ [y]) := by
        rw [show u ++ x :: (a ++ y :: b) = (u ++ [x] ++ (a ++ [y])) ++ b by simp, List.take_left' (by simp; omega)]
      rw [t1, t2, t3, List.drop_left' (by simp)]
      simp
    · have hs : List.Sublist (u ++ x :: b) l := by
        rw [e, e2]
        exact (List.Sublist.refl u).append (List.Sublist.cons_cons x (((List.sublist_cons_self y b).trans (List.sublist_append_right a (y :: b)))))
      exact hs.nodup h.2.2
    · rw [rotAt_mid h1]; simp
    · rw [hr, e2]; simp
    · rw [e, e2]; simp; omega
    · intro z hz
      exact h.2.1 z (by rw [e, e2]; simp at hz ⊢; rcases hz with hz | hz | hz <;> simp [hz])
theorem cut_self {l : List Int} {x : Int} (h : RingR l) (hx : x ∈ l) : cutOf l x x = (true, [], rot l (ix l x + 1)) := by
  rw [cutOf, if_pos ⟨h, hx, hx⟩, if_neg (by omega)]
  have := ix_lt hx
  refine Prod.ext rfl (Prod.ext ?_ rfl)
  exact List.drop_eq_nil_of_le (by simp; omega)
end Go.Proofs.Ytggnolfcgaglfaa
