/- Rings, turned; told plainly. -/
import Derived.Test.YtggnolfcgaglfaaAo1
set_option linter.unusedVariables false
set_option linter.unusedSimpArgs false
namespace Go.Proofs.Ytggnolfcgaglfaa
open Go Go.RowKit

def ix : List Int → Int → Nat
  | [], _ => 0
  | x :: l, v => if x = v then 0 else ix l v + 1
def rot (l : List Int) (p : Nat) : List Int := l.drop p ++ l.take p
def rotAt (l : List Int) (v : Int) : List Int := rot l (ix l v)
theorem ix_le : ∀ (l : List Int) (v : Int), ix l v ≤ l.length
  | [], v => Nat.le_refl _
  | x :: l, v => by
    rw [ix]
    have := ix_le l v
    split
    · exact Nat.zero_le _
    · simp; omega
theorem ix_lt : ∀ {l : List Int} {v : Int}, v ∈ l → ix l v < l.length
  | x :: l, v, h => by
    rw [ix]
    by_cases c : x = v
    · rw [if_pos c]; simp
    · rw [if_neg c]
      have := ix_lt (l := l) (v := v) ((List.mem_cons.1 h).resolve_left fun e => c e.symm)
      simp; omega
theorem ix_none : ∀ {l : List Int} {v : Int}, v ∉ l → ix l v = l.length
  | [], v, _ => rfl
  | x :: l, v, h => by
    rw [ix, if_neg (fun e => h (by simp [e])), ix_none (fun e => h (by simp [e]))]; rfl
theorem ix_get : ∀ {l : List Int} {v : Int}, v ∈ l → l[ix l v]? = some v
  | x :: l, v, h => by
    rw [ix]
    by_cases c : x = v
    · rw [if_pos c, c]; rfl
    · rw [if_neg c, List.getElem?_cons_succ]
      exact ix_get ((List.mem_cons.1 h).resolve_left fun e => c e.symm)
theorem ix_app1 : ∀ {a : List Int} (b : List Int) {v : Int}, v ∈ a → ix (a ++ b) v = ix a v
  | x :: a, b, v, h => by
    rw [List.cons_append, ix, ix]
    by_cases c : x = v
    · rw [if_pos c, if_pos c]
    · rw [if_neg c, if_neg c, ix_app1 b ((List.mem_cons.1 h).resolve_left fun e => c e.symm)]
theorem ix_app2 : ∀ {a : List Int} (b : List Int) {v : Int}, v ∉ a → ix (a ++ b) v = a.length + ix b v
  | [], b, v, h => by simp
  | x :: a, b, v, h => by
    rw [List.cons_append, ix, if_neg (fun e => h (by simp [e])), ix_app2 b (fun e => h (by simp [e]))]; simp; omega
theorem ix_mid {u t : List Int} {v : Int} (h : v ∉ u) : ix (u ++ v :: t) v = u.length := by
  rw [ix_app2 _ h, ix, if_pos rfl, Nat.add_zero]
theorem ix_split : ∀ {l : List Int} {v : Int}, v ∈ l → ∃ u t, l = u ++ v :: t ∧ v ∉ u ∧ ix l v = u.length
  | x :: l, v, h => by
    by_cases c : x = v
    · exact ⟨[], l, by rw [c]; rfl, by simp, by rw [ix, if_pos c]; rfl⟩
    · obtain ⟨u, t, h1, h2, h3⟩ := ix_split ((List.mem_cons.1 h).resolve_left fun e => c e.symm)
      exact ⟨x :: u, t, by rw [h1]; rfl, by simp [h2, show ¬ v = x from fun e => c e.symm], by rw [ix, if_neg c, h3]; rfl⟩
theorem ix_at : ∀ {l : List Int}, l.Nodup → ∀ {i : Nat} {v : Int}, l[i]? = some v → ix l v = i
  | [], _, i, v, h => by simp at h
  | x :: l, hn, 0, v, h => by
    simp at h
    rw [ix, if_pos h]
  | x :: l, hn, i + 1, v, h => by
    have h2 : v ∈ l := List.mem_of_getElem? (by simpa using h)
    rw [ix, if_neg (fun e : x = v => (List.nodup_cons.1 hn).1 (by rw [e]; exact h2)), ix_at (List.nodup_cons.1 hn).2 (by simpa using h)]
theorem rot_len (l : List Int) (p : Nat) : (rot l p).length = l.length := by simp [rot]; omega
theorem rot_perm (l : List Int) (p : Nat) : (rot l p).Perm l := by
  unfold rot
  have := @List.perm_append_comm Int (l.drop p) (l.take p)
  rwa [List.take_append_drop] at this
theorem rot_mem {l : List Int} {p : Nat} {x : Int} : x ∈ rot l p ↔ x ∈ l := (rot_perm l p).mem_iff
theorem rot_nodup {l : List Int} {p : Nat} : (rot l p).Nodup ↔ l.Nodup := (rot_perm l p).nodup_iff
theorem rot_ring {l : List Int} {p : Nat} : RingR (rot l p) ↔ RingR l := by
  unfold RingR TokR
  rw [rot_len, rot_nodup]
  simp only [rot_mem]
theorem rot_app (A B : List Int) : rot (A ++ B) A.length = B ++ A := by simp [rot]
theorem rotAt_mid {u t : List Int} {v : Int} (h : v ∉ u) : rotAt (u ++ v :: t) v = v :: t ++ u := by
  rw [rotAt, ix_mid h, rot_app]
theorem rotAt_comm {A B : List Int} {v : Int} (hn : (A ++ B).Nodup) (hv : v ∈ A ++ B) : rotAt (A ++ B) v = rotAt (B ++ A) v := by
  have hd := List.nodup_append.1 hn
  by_cases h : v ∈ A
  · obtain ⟨u, t, rfl, h2, _⟩ := ix_split h
    have hB : v ∉ B := fun hb => hd.2.2 v h v hb rfl
    rw [show u ++ v :: t ++ B = u ++ v :: (t ++ B) by simp, rotAt_mid h2, show B ++ (u ++ v :: t) = (B ++ u) ++ v :: t by simp, rotAt_mid (by simp [h2, hB])]
    simp
  · have hB : v ∈ B := by simpa [h] using hv
    obtain ⟨u, t, rfl, h2, _⟩ := ix_split hB
    rw [show A ++ (u ++ v :: t) = (A ++ u) ++ v :: t by simp, rotAt_mid (by simp [h2, h]), show u ++ v :: t ++ A = u ++ v :: (t ++ A) by simp, rotAt_mid h2]
    simp
theorem rotAt_rot {l : List Int} {p : Nat} {v : Int} (hn : l.Nodup) (hv : v ∈ l) : rotAt (rot l p) v = rotAt l v := by
  have e : l = l.take p ++ l.drop p := (List.take_append_drop p l).symm
  unfold rot
  rw [← rotAt_comm (by rw [← e]; exact hn) (by rw [← e]; exact hv), ← e]
theorem rotAt_ring {l : List Int} {v : Int} : RingR (rotAt l v) ↔ RingR l := rot_ring
theorem rotAt_len (l : List Int) (v : Int) : (rotAt l v).length = l.length := rot_len _ _
theorem rotAt_mem {l : List Int} {v x : Int} : x ∈ rotAt l v ↔ x ∈ l := rot_mem
theorem rotAt_first {l : List Int} {v : Int} (h : v ∈ l) : (rotAt l v)[0]? = some v := by
  obtain ⟨u, t, rfl, h2, _⟩ := ix_split h
  rw [rotAt_mid h2]; rfl
/-- the least -/
def minV : List Int → Int
  | [] => 0
  | [x] => x
  | x :: y :: l => if x ≤ minV (y :: l) then x else minV (y :: l)
theorem minV_ok : ∀ {l : List Int}, l ≠ [] → minV l ∈ l ∧ ∀ y ∈ l, minV l ≤ y
  | [], h => absurd rfl h
  | [x], _ => by simp [minV]
  | x :: y :: l, _ => by
    obtain ⟨h1, h2⟩ := minV_ok (l := y :: l) (by simp)
    rw [minV]
    by_cases c : x ≤ minV (y :: l)
    · rw [if_pos c]
      refine ⟨by simp, fun z hz => ?_⟩
      rcases List.mem_cons.1 hz with rfl | hz
      · exact Int.le_refl _
      · exact Int.le_trans c (h2 z hz)
    · rw [if_neg c]
      refine ⟨List.mem_cons_of_mem _ h1, fun z hz => ?_⟩
      rcases List.mem_cons.1 hz with rfl | hz
      · omega
      · exact h2 z hz
theorem minV_uniq {l : List Int} {m : Int} (h1 : m ∈ l) (h2 : ∀ y ∈ l, m ≤ y) : minV l = m := by
  obtain ⟨h3, h4⟩ := minV_ok (List.ne_nil_of_mem h1)
  exact Int.le_antisymm (h4 m h1) (h2 _ h3)
theorem minV_perm {a b : List Int} (h : a.Perm b) : minV a = minV b := by
  by_cases c : b = []
  · subst c; rw [h.eq_nil]
  · obtain ⟨h1, h2⟩ := minV_ok c
    exact minV_uniq (h.mem_iff.2 h1) fun y hy => h2 y (h.mem_iff.1 hy)
def plainOf (l : List Int) : List Int := if RingR l ∧ l ≠ [] then rotAt l (minV l) else []
theorem plainOf_pos {l : List Int} (h : RingR l) (h2 : l ≠ []) : plainOf l = rotAt l (minV l) := if_pos ⟨h, h2⟩
theorem plain_rot {l : List Int} {p : Nat} (h : RingR l) : plainOf (rot l p) = plainOf l := by
  by_cases c : l = []
  · subst c; simp [rot]
  · have c2 : rot l p ≠ [] := fun e => c (by have := rot_len l p; rw [e] at this; exact List.eq_nil_of_length_eq_zero this.symm)
    rw [plainOf_pos h c, plainOf_pos (rot_ring.2 h) c2, minV_perm (rot_perm l p), rotAt_rot h.2.2 (minV_ok c).1]
theorem plain_plain {l : List Int} (h : RingR l) : plainOf (plainOf l) = plainOf l := by
  by_cases c : l = []
  · subst c; rfl
  · rw [plainOf_pos h c]
    exact (plain_rot h).trans (plainOf_pos h c)
theorem plain_len {l : List Int} (h : RingR l) : (plainOf l).length = l.length := by
  by_cases c : l = []
  · subst c; rfl
  · rw [plainOf_pos h c, rotAt_len]
theorem plain_mem {l : List Int} (h : RingR l) {x : Int} : x ∈ plainOf l ↔ x ∈ l := by
  by_cases c : l = []
  · subst c; simp [plainOf]
  · rw [plainOf_pos h c, rotAt_mem]
theorem plain_ring {l : List Int} (h : RingR l) : RingR (plainOf l) := by
  by_cases c : l = []
  · subst c; simpa [plainOf] using h
  · rw [plainOf_pos h c]; exact rotAt_ring.2 h
def fromOf (l : List Int) (x : Int) : Bool × List Int := if RingR l ∧ x ∈ l then (true, rotAt l x) else (false, [])
def insOf (p : List Int) (k : Nat) (q : List Int) : List Int := p.take k ++ q ++ p.drop k
def joinOf (a : List Int) (x : Int) (b : List Int) (y : Int) : Bool × List Int :=
  if (RingR a ∧ x ∈ a) ∧ (RingR b ∧ y ∈ b) ∧ RingR (insOf (plainOf a) (ix (plainOf a) x + 1) (rotAt b y)) then (true, insOf (plainOf a) (ix (plainOf a) x + 1) (rotAt b y)) else (false, [])
def cutOf (l : List Int) (x y : Int) : Bool × List Int × List Int :=
  if RingR l ∧ x ∈ l ∧ y ∈ l then
    (if ix l x < ix l y then (true, l.take (ix l x + 1) ++ l.drop (ix l y + 1), (l.take (ix l y + 1)).drop (ix l x + 1))
     else (true, (l.take (ix l x + 1)).drop (ix l y + 1), l.drop (ix l x + 1) ++ l.take (ix l y + 1)))
  else (false, [], [])
def nextOn (l : List Int) (x by_ : Int) : Int × Bool := if RingR l ∧ x ∈ l then (l.getD (((ix l x : Int) + by_) % (l.length : Int)).toNat 0, true) else (0, false)
def sameOf (a b : List Int) : Bool := decide (RingR a ∧ RingR b ∧ plainOf a = plainOf b)
end Go.Proofs.Ytggnolfcgaglfaa
