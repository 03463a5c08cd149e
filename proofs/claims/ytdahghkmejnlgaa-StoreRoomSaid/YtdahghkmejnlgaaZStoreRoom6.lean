/- StoreRoom: the seat's texts as one (6 of 6; printed by wip/prune.py). -/
import Derived.Test.YtdahghkmejnlgaaZStoreRoom5
noncomputable section
set_option linter.unusedVariables false
set_option linter.unusedSimpArgs false
namespace Go.Proofs.Ytdahghkmejnlgaa.Tr
open Go Go.RowKit
def ix : List Int → Int → Nat
 | [], _ => 0
 | x :: l, v => if x = v then 0 else ix l v + 1
def rot (l : List Int) (p : Nat) : List Int := l.drop p ++ l.take p
def rotAt (l : List Int) (v : Int) : List Int := rot l (ix l v)
theorem ix_lt : ∀ {l : List Int} {v : Int}, v ∈ l → ix l v < l.length
 | x :: l, v, h => by
   rw [ix]
   by_cases c : x = v
   · rw [if_pos c]; simp
   · rw [if_neg c]
     have := ix_lt (l := l) (v := v) ((List.mem_cons.1 h).resolve_left fun e => c e.symm)
     simp; omega
theorem ix_app2 : ∀ {a : List Int} (b : List Int) {v : Int}, v ∉ a → ix (a ++ b) v = a.length + ix b v
 | [], b, v, h => by simp
 | x :: a, b, v, h => by
   rw [List.cons_append, ix, if_neg (fun e => h (by simp [e])), ix_app2 b (fun e => h (by simp [e]))]; simp; omega
theorem ix_mid {u t : List Int} {v : Int} (h : v ∉ u) : ix (u ++ v :: t) v = u.length := by
 rw [ix_app2 _ h, ix, if_pos rfl, Nat.add_zero]
theorem ix_split : ∀ {l : List Int} {v : Int}, v ∈ l → ∃ u t, l = u ++ v :: t ∧ v ∉ u ∧ ix l v = u.length
 | x :: l, v, h => by
   by_cases c : x = v
   · exact ⟨[], l, by rw [c]; rfl, by simp, by rw [ix, if_pos c]; rfl⟩
   · obtain ⟨u, t, h1, h2, h3⟩ := ix_split ((List.mem_cons.1 h).resolve_left fun e => c e.symm)
     exact ⟨x :: u, t, by rw [h1]; rfl, by simp [h2, show ¬ v = x from fun e => c e.symm], by rw [ix, if_neg c, h3]; rfl⟩
theorem ix_at : ∀ {l : List Int}, l.Nodup → ∀ {i : Nat} {v : Int}, l[i]? = some v → ix l v = i
 | [], _, i, v, h => by simp at h
 | x :: l, hn, 0, v, h => by
   simp at h
   rw [ix, if_pos h]
 | x :: l, hn, i + 1, v, h => by
   have h2 : v ∈ l := List.mem_of_getElem? (by simpa using h)
   rw [ix, if_neg (fun e : x = v => (List.nodup_cons.1 hn).1 (by rw [e]; exact h2)), ix_at (List.nodup_cons.1 hn).2 (by simpa using h)]
theorem rot_len (l : List Int) (p : Nat) : (rot l p).length = l.length := by simp [rot]; omega
theorem rot_perm (l : List Int) (p : Nat) : (rot l p).Perm l := by
 unfold rot
 have := @List.perm_append_comm Int (l.drop p) (l.take p)
 rwa [List.take_append_drop] at this
theorem rot_mem {l : List Int} {p : Nat} {x : Int} : x ∈ rot l p ↔ x ∈ l := (rot_perm l p).mem_iff
theorem rot_nodup {l : List Int} {p : Nat} : (rot l p).Nodup ↔ l.Nodup := (rot_perm l p).nodup_iff
theorem rot_ring {l : List Int} {p : Nat} : RingR (rot l p) ↔ RingR l := by
 unfold RingR TokR
 rw [rot_len, rot_nodup]
 simp only [rot_mem]
theorem rot_app (A B : List Int) : rot (A ++ B) A.length = B ++ A := by simp [rot]
theorem rotAt_mid {u t : List Int} {v : Int} (h : v ∉ u) : rotAt (u ++ v :: t) v = v :: t ++ u := by
 rw [rotAt, ix_mid h, rot_app]
theorem rotAt_comm {A B : List Int} {v : Int} (hn : (A ++ B).Nodup) (hv : v ∈ A ++ B) : rotAt (A ++ B) v = rotAt (B ++ A) v := by
 have hd := List.nodup_append.1 hn
 by_cases h : v ∈ A
 · obtain ⟨u, t, rfl, h2, _⟩ := ix_split h
   have hB : v ∉ B := fun hb => hd.2.2 v h v hb rfl
   rw [show u ++ v :: t ++ B = u ++ v :: (t ++ B) by simp, rotAt_mid h2, show B ++ (u ++ v :: t) = (B ++ u) ++ v :: t by simp, rotAt_mid (by simp [h2, hB])]
   simp
 · have hB : v ∈ B := by simpa [h] using hv
   obtain ⟨u, t, rfl, h2, _⟩ := ix_split hB
   rw [show A ++ (u ++ v :: t) = (A ++ u) ++ v :: t by simp, rotAt_mid (by simp [h2, h]), show u ++ v :: t ++ A = u ++ v :: (t ++ A) by simp, rotAt_mid h2]
   simp
theorem rotAt_rot {l : List Int} {p : Nat} {v : Int} (hn : l.Nodup) (hv : v ∈ l) : rotAt (rot l p) v = rotAt l v := by
 have e : l = l.take p ++ l.drop p := (List.take_append_drop p l).symm
 unfold rot
 rw [← rotAt_comm (by rw [← e]; exact hn) (by rw [← e]; exact hv), ← e]
theorem rotAt_ring {l : List Int} {v : Int} : RingR (rotAt l v) ↔ RingR l := rot_ring
theorem rotAt_len (l : List Int) (v : Int) : (rotAt l v).length = l.length := rot_len _ _
theorem rotAt_mem {l : List Int} {v x : Int} : x ∈ rotAt l v ↔ x ∈ l := rot_mem
theorem rotAt_first {l : List Int} {v : Int} (h : v ∈ l) : (rotAt l v)[0]? = some v := by
 obtain ⟨u, t, rfl, h2, _⟩ := ix_split h
 rw [rotAt_mid h2]; rfl
def minV : List Int → Int
 | [] => 0
 | [x] => x
 | x :: y :: l => if x ≤ minV (y :: l) then x else minV (y :: l)
theorem minV_ok : ∀ {l : List Int}, l ≠ [] → minV l ∈ l ∧ ∀ y ∈ l, minV l ≤ y
 | [], h => absurd rfl h
 | [x], _ => by simp [minV]
 | x :: y :: l, _ => by
   obtain ⟨h1, h2⟩ := minV_ok (l := y :: l) (by simp)
   rw [minV]
   by_cases c : x ≤ minV (y :: l)
   · rw [if_pos c]
     refine ⟨by simp, fun z hz => ?_⟩
     rcases List.mem_cons.1 hz with rfl | hz
     · exact Int.le_refl _
     · exact Int.le_trans c (h2 z hz)
   · rw [if_neg c]
     refine ⟨List.mem_cons_of_mem _ h1, fun z hz => ?_⟩
     rcases List.mem_cons.1 hz with rfl | hz
     · omega
     · exact h2 z hz
theorem minV_uniq {l : List Int} {m : Int} (h1 : m ∈ l) (h2 : ∀ y ∈ l, m ≤ y) : minV l = m := by
 obtain ⟨h3, h4⟩ := minV_ok (List.ne_nil_of_mem h1)
 exact Int.le_antisymm (h4 m h1) (h2 _ h3)
theorem minV_perm {a b : List Int} (h : a.Perm b) : minV a = minV b := by
 by_cases c : b = []
 · subst c; rw [h.eq_nil]
 · obtain ⟨h1, h2⟩ := minV_ok c
   exact minV_uniq (h.mem_iff.2 h1) fun y hy => h2 y (h.mem_iff.1 hy)
def plainOf (l : List Int) : List Int := if RingR l ∧ l ≠ [] then rotAt l (minV l) else []
theorem plainOf_pos {l : List Int} (h : RingR l) (h2 : l ≠ []) : plainOf l = rotAt l (minV l) := if_pos ⟨h, h2⟩
theorem plain_rot {l : List Int} {p : Nat} (h : RingR l) : plainOf (rot l p) = plainOf l := by
 by_cases c : l = []
 · subst c; simp [rot]
 · have c2 : rot l p ≠ [] := fun e => c (by have := rot_len l p; rw [e] at this; exact List.eq_nil_of_length_eq_zero this.symm)
   rw [plainOf_pos h c, plainOf_pos (rot_ring.2 h) c2, minV_perm (rot_perm l p), rotAt_rot h.2.2 (minV_ok c).1]
theorem plain_plain {l : List Int} (h : RingR l) : plainOf (plainOf l) = plainOf l := by
 by_cases c : l = []
 · subst c; rfl
 · rw [plainOf_pos h c]
   exact (plain_rot h).trans (plainOf_pos h c)
theorem plain_len {l : List Int} (h : RingR l) : (plainOf l).length = l.length := by
 by_cases c : l = []
 · subst c; rfl
 · rw [plainOf_pos h c, rotAt_len]
theorem plain_ring {l : List Int} (h : RingR l) : RingR (plainOf l) := by
 by_cases c : l = []
 · subst c; simpa [plainOf] using h
 · rw [plainOf_pos h c]; exact rotAt_ring.2 h
def fromOf (l : List Int) (x : Int) : Bool × List Int := if RingR l ∧ x ∈ l then (true, rotAt l x) else (false, [])
end Go.Proofs.Ytdahghkmejnlgaa.Tr
namespace Go.Proofs.Ytdahghkmejnlgaa.Tr
open Go Go.RowKit
theorem rot_get (l : List Int) {p i : Nat} (hp : p ≤ l.length) (hi : i < l.length) : (rot l p)[i]? = l[(p + i) % l.length]? := by
 unfold rot
 by_cases c : p + i < l.length
 · rw [List.getElem?_append_left (by simp; omega), List.getElem?_drop, Nat.mod_eq_of_lt c]
 · rw [List.getElem?_append_right (by simp; omega), List.length_drop, Nat.mod_eq_sub_mod (by omega), Nat.mod_eq_of_lt (by omega), List.getElem?_take, if_pos (by omega)]
   congr 1; omega
def ixI (l : List Int) (v : Int) : Int := if v ∈ l then (ix l v : Int) else -1
theorem ixI_pos {l : List Int} {v : Int} (h : v ∈ l) : ixI l v = (ix l v : Int) := if_pos h
theorem ixI_neg {l : List Int} {v : Int} (h : v ∉ l) : ixI l v = -1 := if_neg h
theorem ixI_sign {l : List Int} {v : Int} : (0 ≤ ixI l v) ↔ v ∈ l := by
 by_cases h : v ∈ l
 · rw [ixI_pos h]; simp [h]
 · rw [ixI_neg h]; simp [h]
theorem ixI_lt {l : List Int} {v : Int} : (ixI l v < 0) ↔ v ∉ l := by
 rw [← ixI_sign]; omega
theorem rplace_loop (N : Nat) (l : List Int) (v : Int) (hm : l.length ≤ 9223372036854775807) : ∀ (k i m : Nat), i + k = l.length → k < m →
   l_u38_1 N m (l, v, (i : Int)) = some (if v ∈ l.drop i then .inr ((i + ix (l.drop i) v : Nat) : Int) else .inl ())
 | k, i, 0, h1, h2 => by omega
 | 0, i, m + 1, h1, h2 => by
   rw [l_u38_1_s, cd, if_neg (by omega), List.drop_eq_nil_of_le (by omega)]; simp
 | k + 1, i, m + 1, h1, h2 => by
   obtain ⟨x, hx⟩ := get_at (xs := l) (i := i) (by omega)
   rw [l_u38_1_s, cd, if_pos (by omega), nth_of hx, ob, cd, w64n (by omega), drop_at hx]
   by_cases h : x = v
   · subst h
     rw [if_pos rfl, if_pos (by simp), ix, if_pos rfl]; rfl
   · have hk : ix (x :: l.drop (i + 1)) v = ix (l.drop (i + 1)) v + 1 := by rw [ix, if_neg h]
     rw [if_neg h, rplace_loop N l v hm k (i + 1) m (by omega) (by omega), hk]
     by_cases h2 : v ∈ l.drop (i + 1)
     · rw [if_pos h2, if_pos (by simp [h2])]; congr 3; omega
     · rw [if_neg h2, if_neg (by simp [h2, show ¬ v = x from fun e => h e.symm])]
theorem rplace_eq (N : Nat) (hN : Fu + 1 ≤ N) (l : List Int) (v : Int) (hm : l.length ≤ 9223372036854775807) : m_u38 N (l, v) = some (ixI l v) := by
 obtain ⟨N, rfl⟩ : ∃ n, N = n + 1 := ⟨N - 1, by omega⟩
 have h := rplace_loop N l v hm l.length 0 N (by omega) (by have := Fu_eq; omega)
 rw [List.drop_zero, Nat.zero_add] at h
 rw [m_u38_eq, show ((0 : Int) = ((0 : Nat) : Int)) from rfl, h, ob, ixI]
 by_cases c : v ∈ l
 · rw [if_pos c, if_pos c]
 · rw [if_neg c, if_neg c]
theorem rfrom_eq (N : Nat) (hN : Fu + 5 ≤ N) (l : List Int) (x : Int) (hm : l.length ≤ 9223372036854775807) : m_u58 N (l, x) = some (fromOf l x) := by
 obtain ⟨N, rfl⟩ : ∃ n, N = n + 1 := ⟨N - 1, by omega⟩
 rw [m_u58_eq, rplace_eq N (by omega) l x hm, ob, rring_eq N (by omega) l hm, ob, cdn, fromOf]
 by_cases c : RingR l
 · rw [if_pos c, cd]
   by_cases c2 : x ∈ l
   · have := ix_lt c2
     have hl := c.1
     rw [if_neg (fun h => ixI_lt.1 h c2), if_pos ⟨c, c2⟩, ixI_pos c2, sub_drop (by omega) (by omega), ob, app_of (by omega) (by simp; omega), ob, sub_take (by omega) (by omega), ob, app_of (by omega) (by simp; omega), ob]
     simp [rotAt, rot]
   · rw [if_pos (ixI_lt.2 c2), if_neg (fun h => c2 h.2)]
 · rw [if_neg c, if_neg (fun h => c h.1)]
theorem min_loop (N : Nat) (l : List Int) (hm : l.length ≤ 1000) : ∀ (k i m : Nat) (a : Int), i + k = l.length → k < m → a ∈ l → (∀ (j : Nat) y, j < i → l[j]? = some y → a ≤ y) →
   l_u24_1 N m (l, a, (i : Int)) = some (minV l)
 | k, i, 0, a, h1, h2, h3, h4 => by omega
 | 0, i, m + 1, a, h1, h2, h3, h4 => by
   rw [l_u24_1_s, cd, if_neg (by omega)]
   congr 1
   refine (minV_uniq h3 fun y hy => ?_).symm
   obtain ⟨j, hj⟩ := List.getElem?_of_mem hy
   exact h4 j y (by have := (List.getElem?_eq_some_iff.1 hj).1; omega) hj
 | k + 1, i, m + 1, a, h1, h2, h3, h4 => by
   obtain ⟨x, hx⟩ := get_at (xs := l) (i := i) (by omega)
   rw [l_u24_1_s, cd, if_pos (by omega), nth_of hx, ob, w64n (by omega)]
   refine min_loop N l hm k (i + 1) m _ (by omega) (by omega) ?_ fun j y hj hy => ?_
   · split
     · exact List.mem_of_getElem? hx
     · exact h3
   · by_cases e : j = i
     · subst e
       rw [hx] at hy; cases hy
       split <;> omega
     · have := h4 j y (by omega) hy
       split <;> omega
theorem min_eq (N : Nat) (hN : Fu + 1 ≤ N) (l : List Int) (hm : l.length ≤ 1000) (h0 : l ≠ []) : m_u24 N l = some (minV l) := by
 obtain ⟨N, rfl⟩ : ∃ n, N = n + 1 := ⟨N - 1, by omega⟩
 have hp := List.length_pos_iff.2 h0
 obtain ⟨x, hx⟩ := get_at (xs := l) (i := 0) hp
 rw [m_u24_eq, cd, if_neg (by omega), show ((0 : Int) = ((0 : Nat) : Int)) from rfl, nth_of hx, ob, show ((1 : Int) = ((1 : Nat) : Int)) from rfl, min_loop N l hm (l.length - 1) 1 N x (by omega) (by have := Fu_eq; omega) (List.mem_of_getElem? hx) (fun j y hj hy => by
   have : j = 0 := by omega
   subst this
   rw [hx] at hy; cases hy; exact Int.le_refl _), ob]
theorem rleast_loop (N : Nat) (l : List Int) (hm : l.length ≤ 1000) : ∀ (k i m : Nat) (a : Int), i + k = l.length → k < m → a ∈ l → (∀ (j : Nat) y, j < i → l[j]? = some y → a ≤ y) →
   l_u39_1 N m (l, a, (i : Int)) = some (l, minV l)
 | k, i, 0, a, h1, h2, h3, h4 => by omega
 | 0, i, m + 1, a, h1, h2, h3, h4 => by
   rw [l_u39_1_s, cd, if_neg (by omega)]
   congr 2
   refine (minV_uniq h3 fun y hy => ?_).symm
   obtain ⟨j, hj⟩ := List.getElem?_of_mem hy
   exact h4 j y (by have := (List.getElem?_eq_some_iff.1 hj).1; omega) hj
 | k + 1, i, m + 1, a, h1, h2, h3, h4 => by
   obtain ⟨x, hx⟩ := get_at (xs := l) (i := i) (by omega)
   rw [l_u39_1_s, cd, if_pos (by omega), nth_of hx, ob, w64n (by omega)]
   refine rleast_loop N l hm k (i + 1) m _ (by omega) (by omega) ?_ fun j y hj hy => ?_
   · split
     · exact List.mem_of_getElem? hx
     · exact h3
   · by_cases e : j = i
     · subst e
       rw [hx] at hy; cases hy
       split <;> omega
     · have := h4 j y (by omega) hy
       split <;> omega
theorem rplain_eq (N : Nat) (hN : Fu + 6 ≤ N) (l : List Int) (hm : l.length ≤ 9223372036854775807) : m_u39 N l = some (plainOf l) := by
 obtain ⟨N, rfl⟩ : ∃ n, N = n + 1 := ⟨N - 1, by omega⟩
 rw [m_u39_eq, rring_eq N (by omega) l hm, ob, cdn, plainOf]
 by_cases c : RingR l
 · rw [if_pos c, cd]
   by_cases c2 : l = []
   · subst c2; simp
   · have hp := List.length_pos_iff.2 c2
     have hi := (minV_ok c2).1
     obtain ⟨x, hx⟩ := get_at (xs := l) (i := 0) hp
     have e := rleast_loop N l c.1 l.length 0 N x (by omega) (by have := Fu_eq; omega) (List.mem_of_getElem? hx) (fun j y hj hy => by omega)
     rw [if_neg (by omega), if_pos ⟨c, c2⟩, show ((0 : Int) = ((0 : Nat) : Int)) from rfl, nth_of hx, ob, e, ob]
     simp only
     rw [rfrom_eq N (by omega) l _ hm, ob, fromOf, if_pos ⟨c, hi⟩]
 · rw [if_neg c, if_neg (fun h => c h.1)]
theorem lists_loop (N : Nat) (hN : Fu + 1 ≤ N) (a b : List (List Int)) (hl : a.length = b.length) (hm : a.length ≤ 9223372036854775807) (hi : ∀ x ∈ a, x.length ≤ 9223372036854775807) : ∀ (k i m : Nat), i + k = a.length → k < m →
   l_u42_1 N m (a, b, (i : Int)) = some (if a.drop i = b.drop i then .inl () else .inr false)
 | k, i, 0, h1, h2 => by omega
 | 0, i, m + 1, h1, h2 => by
   rw [l_u42_1_s, cd, if_neg (by omega), List.drop_eq_nil_of_le (by omega), List.drop_eq_nil_of_le (by omega), if_pos rfl]
 | k + 1, i, m + 1, h1, h2 => by
   obtain ⟨x, hx⟩ := get_at (xs := a) (i := i) (by omega)
   obtain ⟨y, hy⟩ := get_at (xs := b) (i := i) (by omega)
   rw [l_u42_1_s, cd, if_pos (by omega), nth_of hx, ob, nth_of hy, ob, ints_eq N hN x y (hi x (List.mem_of_getElem? hx)), ob, cdn, w64n (by omega), lists_loop N hN a b hl hm hi k (i + 1) m (by omega) (by omega), drop_at hx, drop_at hy]
   by_cases h : x = y
   · simp [h]
   · simp [h]
theorem lists_eq (N : Nat) (hN : Fu + 2 ≤ N) (a b : List (List Int)) (hm : a.length ≤ 9223372036854775807) (hi : ∀ x ∈ a, x.length ≤ 9223372036854775807) : m_u42 N (a, b) = some (decide (a = b)) := by
 obtain ⟨N, rfl⟩ : ∃ n, N = n + 1 := ⟨N - 1, by omega⟩
 rw [m_u42_eq, cdn]
 by_cases hl : a.length = b.length
 · rw [if_pos (by omega), show ((0 : Int) = ((0 : Nat) : Int)) from rfl, lists_loop N (by omega) a b hl hm hi a.length 0 N (by omega) (by have := Fu_eq; omega), ob, List.drop_zero, List.drop_zero]
   by_cases h : a = b <;> simp [h]
 · rw [if_neg (by omega)]
   have : ¬ a = b := fun e => hl (by rw [e])
   simp [this]
end Go.Proofs.Ytdahghkmejnlgaa.Tr
namespace Go.Proofs.Ytdahghkmejnlgaa.Tr
open Go Go.RowKit
structure Cl (n : Nat) (l : List (Nat × Nat)) (c : Nat → Nat) : Prop where
 le : ∀ v, v < n → c v ≤ v
 fix : ∀ v, v < n → c (c v) = c v
 ed : ∀ e ∈ l, c e.1 = c e.2
 uni : ∀ f : Nat → Nat, (∀ e ∈ l, f e.1 = f e.2) → ∀ v, v < n → f (c v) = f v
def jn (c : Nat → Nat) (u v : Nat) : Nat → Nat := fun x => if c x = max (c u) (c v) then min (c u) (c v) else c x
theorem jn_same {c : Nat → Nat} {u v : Nat} (h : c u = c v) : jn c u v = c := by
 funext x
 unfold jn
 rw [h]
 split
 · rename_i hx; omega
 · rfl
theorem Cl.jn {n : Nat} {l : List (Nat × Nat)} {c : Nat → Nat} (h : Cl n l c) {u v : Nat} (hu : u < n) (hv : v < n) : Cl n (l ++ [(u, v)]) (jn c u v) := by
 have fu := h.fix u hu
 have fv := h.fix v hv
 have fm : c (min (c u) (c v)) = min (c u) (c v) := by
   rcases Nat.le_total (c u) (c v) with q | q
   · rw [Nat.min_eq_left q]; exact fu
   · rw [Nat.min_eq_right q]; exact fv
 refine ⟨fun x hx => ?_, fun x hx => ?_, fun e he => ?_, fun f hf x hx => ?_⟩
 · have := h.le x hx
   unfold Proofs.Ytdahghkmejnlgaa.Tr.jn
   split <;> omega
 · have := h.fix x hx
   by_cases q : c x = max (c u) (c v)
   · have e1 : Proofs.Ytdahghkmejnlgaa.Tr.jn c u v x = min (c u) (c v) := if_pos q
     rw [e1]
     unfold Proofs.Ytdahghkmejnlgaa.Tr.jn
     rw [fm]
     split <;> rfl
   · have e1 : Proofs.Ytdahghkmejnlgaa.Tr.jn c u v x = c x := if_neg q
     rw [e1]
     unfold Proofs.Ytdahghkmejnlgaa.Tr.jn
     rw [this, if_neg q]
 · rcases List.mem_append.1 he with he | he
   · unfold Proofs.Ytdahghkmejnlgaa.Tr.jn; rw [h.ed e he]
   · simp only [List.mem_singleton] at he
     subst he
     have : ∀ y, (c y = c u ∨ c y = c v) → Proofs.Ytdahghkmejnlgaa.Tr.jn c u v y = min (c u) (c v) := fun y hy => by
       unfold Proofs.Ytdahghkmejnlgaa.Tr.jn
       split
       · rfl
       · omega
     rw [this u (.inl rfl), this v (.inr rfl)]
 · have h0 := h.uni f (fun e he => hf e (by simp [he]))
   have huv : f u = f v := hf (u, v) (by simp)
   have hm : f (min (c u) (c v)) = f (max (c u) (c v)) := by
     rcases Nat.le_total (c u) (c v) with q | q
     · rw [Nat.min_eq_left q, Nat.max_eq_right q, h0 u hu, h0 v hv, huv]
     · rw [Nat.min_eq_right q, Nat.max_eq_left q, h0 u hu, h0 v hv, huv]
   unfold Proofs.Ytdahghkmejnlgaa.Tr.jn
   split
   · rename_i q; rw [hm, ← q, h0 x hx]
   · exact h0 x hx
def clo (l : List (Nat × Nat)) : Nat → Nat := l.foldl (fun c e => jn c e.1 e.2) id
def EdOk (n : Nat) (l : List (Nat × Nat)) : Prop := ∀ e ∈ l, e.1 < n ∧ e.2 < n
end Go.Proofs.Ytdahghkmejnlgaa.Tr
namespace Go.Proofs.Ytdahghkmejnlgaa.Tr
open Go Go.RowKit
def edI (e : Nat × Nat) : Int × Int := ((e.1 : Int), (e.2 : Int))
def edN (e : Int × Int) : Nat × Nat := (e.1.toNat, e.2.toNat)
def InE (n : Int) (e : Int × Int) : Prop := (0 ≤ e.1 ∧ e.1 < n) ∧ 0 ≤ e.2 ∧ e.2 < n
instance (n : Int) (e : Int × Int) : Decidable (InE n e) := inferInstanceAs (Decidable (_ ∧ _))
theorem edI_N {n : Int} {e : Int × Int} (h : InE n e) : edI (edN e) = e := by
 obtain ⟨a, b⟩ := e
 have h1 := h.1.1
 have h2 := h.2.1
 simp only at h1 h2
 exact Prod.ext (Int.toNat_of_nonneg h1) (Int.toNat_of_nonneg h2)
theorem InE.nat {n : Nat} {e : Int × Int} (h : InE (n : Int) e) : (edN e).1 < n ∧ (edN e).2 < n := by
 have h1 := h.1
 have h2 := h.2
 exact ⟨by unfold edN; omega, by unfold edN; omega⟩
theorem inE_map {n : Int} {l : List (Int × Int)} (h : ∀ e ∈ l, InE n e) : l = (l.map edN).map edI := by
 rw [List.map_map]
 exact (List.map_id l).symm.trans (List.map_congr_left fun e he => (edI_N (h e he)).symm)
theorem edOk_of {n : Int} {l : List (Int × Int)} (h0 : 0 ≤ n) (h : ∀ e ∈ l, InE n e) : EdOk n.toNat (l.map edN) := fun e he => by
 obtain ⟨x, hx, rfl⟩ := List.mem_map.1 he
 have := h x hx
 have e0 : ((n.toNat : Nat) : Int) = n := Int.toNat_of_nonneg h0
 exact InE.nat (by rw [e0]; exact this)
end Go.Proofs.Ytdahghkmejnlgaa.Tr
namespace Go.Proofs.Ytdahghkmejnlgaa.Tr
open Go Go.RowKit
abbrev Tk := Nat × Nat
def stp : List Nat → Tk → Option (List Nat)
 | [], _ => none
 | [u], t => if t.1 = u then (if t.2 = u then some [u] else some [t.2, u]) else none
 | u :: w :: r, t => if t.1 = u then (if t.2 = u then some (u :: w :: r) else if t.2 = w then some (w :: r) else some (t.2 :: u :: w :: r)) else none
def run : List Nat → List Tk → Option (List Nat)
 | s, [] => some s
 | s, t :: l => match stp s t with
   | some z => run z l
   | none => none
theorem run_cons {s : List Nat} {t : Tk} {l : List Tk} {z : List Nat} : run s (t :: l) = some z ↔ ∃ y, stp s t = some y ∧ run y l = some z := by
 rw [run]
 cases h : stp s t with
 | none => simp
 | some y => simp
theorem run_append : ∀ {l m : List Tk} {s z : List Nat}, run s (l ++ m) = some z ↔ ∃ y, run s l = some y ∧ run y m = some z
 | [], m, s, z => by simp [run]
 | t :: l, m, s, z => by
   rw [List.cons_append, run_cons]
   constructor
   · rintro ⟨y, h1, h2⟩
     obtain ⟨x, h3, h4⟩ := run_append.1 h2
     exact ⟨x, run_cons.2 ⟨y, h1, h3⟩, h4⟩
   · rintro ⟨x, h3, h4⟩
     obtain ⟨y, h1, h2⟩ := run_cons.1 h3
     exact ⟨y, h1, run_append.2 ⟨x, h2, h4⟩⟩
theorem stp_cases {s : List Nat} {t : Tk} {z : List Nat} (h : stp s t = some z) : ∃ r, s = t.1 :: r ∧ ((t.2 = t.1 ∧ z = s) ∨ (t.2 ≠ t.1 ∧ ∃ r', r = t.2 :: r' ∧ z = r) ∨ (t.2 ≠ t.1 ∧ r.head? ≠ some t.2 ∧ z = t.2 :: s)) := by
 match s with
 | [] => simp [stp] at h
 | [u] =>
   simp only [stp] at h
   split at h
   · rename_i h1
     subst h1
     refine ⟨[], rfl, ?_⟩
     split at h
     · rename_i h2; cases h; exact .inl ⟨h2, rfl⟩
     · rename_i h2; cases h; exact .inr (.inr ⟨h2, by simp, rfl⟩)
   · cases h
 | u :: w :: r =>
   simp only [stp] at h
   split at h
   · rename_i h1
     subst h1
     refine ⟨w :: r, rfl, ?_⟩
     split at h
     · rename_i h2; cases h; exact .inl ⟨h2, rfl⟩
     · rename_i h2
       split at h
       · rename_i h3; cases h; exact .inr (.inl ⟨h2, r, by rw [h3], rfl⟩)
       · rename_i h3; cases h; exact .inr (.inr ⟨h2, by simpa using fun e => h3 e.symm, rfl⟩)
   · cases h
theorem stp_stay (u : Nat) (r : List Nat) : stp (u :: r) (u, u) = some (u :: r) := by
 cases r <;> simp [stp]
theorem stp_pop {u w : Nat} (h : w ≠ u) (r : List Nat) : stp (u :: w :: r) (u, w) = some (w :: r) := by
 simp [stp, h]
theorem stp_push {u v : Nat} {r : List Nat} (h : v ≠ u) (h2 : r.head? ≠ some v) : stp (u :: r) (u, v) = some (v :: u :: r) := by
 cases r with
 | nil => simp [stp, h]
 | cons w r => simp [stp, h, show ¬ v = w from fun e => h2 (by rw [e]; rfl)]
theorem run_top : ∀ {l : List Tk} {s z : List Nat} {t : Tk}, run s (l ++ [t]) = some z → ∃ r, z = t.2 :: r := by
 intro l s z t h
 obtain ⟨y, h1, h2⟩ := run_append.1 h
 obtain ⟨x, h3, h4⟩ := run_cons.1 h2
 obtain ⟨r, h5, h6⟩ := stp_cases h3
 have h4 : x = z := by simpa [run] using h4
 subst h4
 rcases h6 with ⟨e, rfl⟩ | ⟨e, r', h7, rfl⟩ | ⟨e, h7, rfl⟩
 · exact ⟨r, by rw [e, h5]⟩
 · exact ⟨r', h7⟩
 · exact ⟨_, rfl⟩
theorem run_head {s z : List Nat} {t : Tk} {l : List Tk} (h : run s (t :: l) = some z) : s.head? = some t.1 := by
 obtain ⟨y, h1, h2⟩ := run_cons.1 h
 obtain ⟨r, h5, _⟩ := stp_cases h1
 rw [h5]; rfl
def Rb (u v : Nat) (s s' : List Nat) : Prop := (∃ a, s = a ++ [v, u] ∧ s' = a ++ [v]) ∨ ∃ a, s = a ++ [u] ∧ s' = a ++ [u, v] ∧ a.getLast? ≠ some v
theorem rb_stp {u v : Nat} {s s' z : List Nat} {t : Tk} (h : Rb u v s s') (hs : stp s t = some z) : ∃ z', stp s' t = some z' ∧ Rb u v z z' := by
 obtain ⟨t1, t2⟩ := t
 obtain ⟨r, h1, h2⟩ := stp_cases hs
 simp only at h1 h2
 rcases h with ⟨a, e1, e2⟩ | ⟨a, e1, e2, e3⟩
 · cases a with
   | nil =>
     simp only [List.nil_append] at e1 e2
     subst e1; subst e2
     simp only [List.cons.injEq] at h1
     obtain ⟨rfl, rfl⟩ := h1
     rcases h2 with ⟨rfl, rfl⟩ | ⟨hn, r', hr, rfl⟩ | ⟨hn, hh, rfl⟩
     · exact ⟨[t2], stp_stay _ _, .inl ⟨[], rfl, rfl⟩⟩
     · simp only [List.cons.injEq] at hr
       obtain ⟨rfl, rfl⟩ := hr
       exact ⟨[u, v], stp_push hn (by simp), .inr ⟨[], rfl, rfl, by simp⟩⟩
     · exact ⟨[t2, v], stp_push hn (by simp), .inl ⟨[t2], rfl, rfl⟩⟩
   | cons x b =>
     subst e1; subst e2
     simp only [List.cons_append, List.cons.injEq] at h1
     obtain ⟨rfl, rfl⟩ := h1
     have hh : ∀ y, (b ++ [v, u]).head? = some y → (b ++ [v]).head? = some y := fun y h => by cases b <;> simpa using h
     have hh2 : ∀ y, (b ++ [v]).head? = some y → (b ++ [v, u]).head? = some y := fun y h => by cases b <;> simpa using h
     rcases h2 with ⟨rfl, rfl⟩ | ⟨hn, r', hr, rfl⟩ | ⟨hn, hq, rfl⟩
     · exact ⟨_, stp_stay _ _, .inl ⟨t2 :: b, rfl, rfl⟩⟩
     · have : (b ++ [v]).head? = some t2 := hh _ (by rw [hr]; rfl)
       obtain ⟨q, hq⟩ : ∃ q, b ++ [v] = t2 :: q := by
         cases hb : b ++ [v] with
         | nil => simp at hb
         | cons y q => rw [hb] at this; simp at this; exact ⟨q, by rw [this]⟩
       refine ⟨b ++ [v], ?_, .inl ⟨b, rfl, rfl⟩⟩
       rw [List.cons_append, hq]
       exact stp_pop hn _
     · refine ⟨t2 :: x :: b ++ [v], stp_push hn fun h => hq (hh2 _ h), .inl ⟨t2 :: x :: b, rfl, rfl⟩⟩
 · cases a with
   | nil =>
     simp only [List.nil_append] at e1 e2
     subst e1; subst e2
     simp only [List.cons.injEq] at h1
     obtain ⟨rfl, rfl⟩ := h1
     rcases h2 with ⟨rfl, rfl⟩ | ⟨hn, r', hr, rfl⟩ | ⟨hn, hh, rfl⟩
     · exact ⟨[t2, v], stp_stay _ _, .inr ⟨[], rfl, rfl, by simp⟩⟩
     · cases hr
     · by_cases hv : t2 = v
       · subst hv
         exact ⟨[t2], stp_pop hn _, .inl ⟨[], rfl, rfl⟩⟩
       · exact ⟨[t2, u, v], stp_push hn (by simpa using fun e : v = t2 => hv e.symm), .inr ⟨[t2], rfl, rfl, by simpa using hv⟩⟩
   | cons x b =>
     subst e1; subst e2
     simp only [List.cons_append, List.cons.injEq] at h1
     obtain ⟨rfl, rfl⟩ := h1
     have hh : ∀ y, (b ++ [u]).head? = some y → (b ++ [u, v]).head? = some y := fun y h => by cases b <;> simpa using h
     have hh2 : ∀ y, (b ++ [u, v]).head? = some y → (b ++ [u]).head? = some y := fun y h => by cases b <;> simpa using h
     rcases h2 with ⟨rfl, rfl⟩ | ⟨hn, r', hr, rfl⟩ | ⟨hn, hq, rfl⟩
     · exact ⟨_, stp_stay _ _, .inr ⟨t2 :: b, rfl, rfl, e3⟩⟩
     · have : (b ++ [u, v]).head? = some t2 := hh _ (by rw [hr]; rfl)
       obtain ⟨q, hq⟩ : ∃ q, b ++ [u, v] = t2 :: q := by
         cases hb : b ++ [u, v] with
         | nil => simp at hb
         | cons y q => rw [hb] at this; simp at this; exact ⟨q, by rw [this]⟩
       refine ⟨b ++ [u, v], ?_, .inr ⟨b, rfl, rfl, ?_⟩⟩
       · rw [List.cons_append, hq]
         exact stp_pop hn _
       · cases b with
         | nil => simp
         | cons y b => rwa [List.getLast?_cons_cons] at e3
     · refine ⟨t2 :: x :: b ++ [u, v], stp_push hn fun h => hq (hh2 _ h), .inr ⟨t2 :: x :: b, rfl, rfl, by rwa [List.getLast?_cons_cons]⟩⟩
theorem rb_run {u v : Nat} : ∀ {l : List Tk} {s s' z : List Nat}, Rb u v s s' → run s l = some z → ∃ z', run s' l = some z' ∧ Rb u v z z'
 | [], s, s', z, h, hr => ⟨s', rfl, by have : s = z := by simpa [run] using hr
                                       exact this ▸ h⟩
 | t :: l, s, s', z, h, hr => by
   obtain ⟨y, h1, h2⟩ := run_cons.1 hr
   obtain ⟨y', h3, h4⟩ := rb_stp h h1
   obtain ⟨z', h5, h6⟩ := rb_run h4 h2
   exact ⟨z', run_cons.2 ⟨y', h3, h5⟩, h6⟩
def Clo (l : List Tk) (r : Nat) : Prop := run [r] l = some [r]
theorem clo_turn {t : Tk} {l : List Tk} {r : Nat} (h : Clo (t :: l) r) : t.1 = r ∧ Clo (l ++ [t]) t.2 := by
 obtain ⟨t1, t2⟩ := t
 have h0 : t1 = r := by have := run_head h; simpa using this.symm
 subst h0
 refine ⟨rfl, ?_⟩
 obtain ⟨y, h1, h2⟩ := run_cons.1 h
 obtain ⟨q, h3, h4⟩ := stp_cases h1
 simp only [List.cons.injEq, true_and] at h3 h4
 subst h3
 rcases h4 with ⟨rfl, rfl⟩ | ⟨hn, r', hr, rfl⟩ | ⟨hn, hh, rfl⟩
 · exact run_append.2 ⟨_, h2, by simp [run, stp]⟩
 · cases hr
 · obtain ⟨z', h5, h6⟩ := rb_run (u := t1) (v := t2) (s := [t2, t1]) (s' := [t2]) (.inl ⟨[], rfl, rfl⟩) h2
   refine run_append.2 ⟨z', h5, ?_⟩
   rcases h6 with ⟨a, e1, e2⟩ | ⟨a, e1, e2, e3⟩
   · have := congrArg List.length e1
     simp at this
   · cases a with
     | nil =>
       simp only [List.nil_append] at e2
       subst e2
       refine run_cons.2 ⟨[t2], stp_pop hn _, rfl⟩
     | cons x a =>
       have := congrArg List.length e1
       simp at this
theorem clo_rot : ∀ {a b : List Tk} {r : Nat}, Clo (a ++ b) r → ∃ r', Clo (b ++ a) r'
 | [], b, r, h => ⟨r, by simpa using h⟩
 | t :: a, b, r, h => by
   obtain ⟨h1, h2⟩ := clo_turn (by simpa using h : Clo (t :: (a ++ b)) r)
   rw [List.append_assoc] at h2
   obtain ⟨r', h3⟩ := clo_rot h2
   exact ⟨r', by simpa using h3⟩
def psh : List Nat → List Tk → List Nat
 | _, [] => []
 | s, t :: l => match stp s t with
   | some z => if s.length < z.length then t.2 :: psh z l else psh z l
   | none => []
def arcN (l : List Tk) : Nat := (l.filter fun t => t.1 != t.2).length
def verts (l : List Tk) : List Nat := (l.filter fun t => t.1 == t.2).map (·.1)
theorem psh_cons {s z : List Nat} {t : Tk} {l : List Tk} (h : stp s t = some z) : psh s (t :: l) = if s.length < z.length then t.2 :: psh z l else psh z l := by
 rw [psh, h]
theorem arcN_cons (t : Tk) (l : List Tk) : arcN (t :: l) = (if t.1 = t.2 then 0 else 1) + arcN l := by
 unfold arcN
 by_cases h : t.1 = t.2
 · simp [List.filter_cons, h]
 · simp [List.filter_cons, h]; omega
theorem arcN_append (l m : List Tk) : arcN (l ++ m) = arcN l + arcN m := by simp [arcN]
theorem psh_num : ∀ {l : List Tk} {s z : List Nat}, run s l = some z → 2 * (psh s l).length + s.length = arcN l + z.length
 | [], s, z, h => by
   have : s = z := by simpa [run] using h
   subst this
   simp [psh, arcN]
 | t :: l, s, z, h => by
   obtain ⟨y, h1, h2⟩ := run_cons.1 h
   have ih := psh_num h2
   obtain ⟨r, h3, h4⟩ := stp_cases h1
   rw [psh_cons h1, arcN_cons]
   rcases h4 with ⟨e, rfl⟩ | ⟨hn, r', hr, rfl⟩ | ⟨hn, hh, rfl⟩
   · rw [if_neg (Nat.lt_irrefl _), if_pos e.symm]; omega
   · rw [if_neg (by rw [h3]; simp), if_neg (fun e => hn e.symm)]
     have : s.length = y.length + 1 := by rw [h3]; rfl
     omega
   · rw [if_pos (by simp), if_neg (fun e => hn e.symm)]
     simp at ih ⊢; omega
theorem psh_in : ∀ {l : List Tk} {s z : List Nat}, run s l = some z → ∀ t ∈ l, t.1 ∈ s ∨ t.1 ∈ psh s l
 | [], s, z, h, t, ht => by cases ht
 | x :: l, s, z, h, t, ht => by
   obtain ⟨y, h1, h2⟩ := run_cons.1 h
   obtain ⟨r, h3, h4⟩ := stp_cases h1
   rw [psh_cons h1]
   rcases List.mem_cons.1 ht with rfl | ht
   · exact .inl (by rw [h3]; simp)
   · have ih := psh_in h2 t ht
     rcases h4 with ⟨e, rfl⟩ | ⟨hn, r', hr, rfl⟩ | ⟨hn, hh, rfl⟩
     · rw [if_neg (Nat.lt_irrefl _)]; exact ih
     · rw [if_neg (by rw [h3]; simp)]
       rcases ih with ih | ih
       · exact .inl (by rw [h3]; exact List.mem_cons_of_mem _ ih)
       · exact .inr ih
     · rw [if_pos (by simp)]
       rcases ih with ih | ih
       · rcases List.mem_cons.1 ih with ih | ih
         · exact .inr (by rw [ih]; simp)
         · exact .inl ih
       · exact .inr (List.mem_cons_of_mem _ ih)
theorem perm_of_len {α : Type} [BEq α] [LawfulBEq α] : ∀ {A B : List α}, A.Nodup → (∀ x ∈ A, x ∈ B) → B.length ≤ A.length → B.Perm A
 | [], B, _, _, hl => by
   have : B = [] := List.eq_nil_of_length_eq_zero (by simpa using hl)
   subst this; exact List.Perm.refl _
 | a :: A, B, hn, hs, hl => by
   have ha : a ∈ B := hs a (by simp)
   have hp := List.perm_cons_erase ha
   have hn2 := List.nodup_cons.1 hn
   have hlen := hp.length_eq
   have ih : (B.erase a).Perm A := perm_of_len hn2.2 (fun x hx => by
     have hxB := hs x (by simp [hx])
     have := hp.mem_iff.1 hxB
     rcases List.mem_cons.1 this with e | e
     · exact absurd (e ▸ hx) hn2.1
     · exact e) (by simp at hl hlen; omega)
   exact hp.trans (ih.cons a)
theorem verts_mem {l : List Tk} {u : Nat} : u ∈ verts l ↔ (u, u) ∈ l := by
 unfold verts
 simp only [List.mem_map, List.mem_filter, beq_iff_eq]
 constructor
 · rintro ⟨⟨a, b⟩, ⟨h1, h2⟩, h3⟩
   simp only at h2 h3
   subst h2; subst h3; exact h1
 · exact fun h => ⟨(u, u), ⟨h, rfl⟩, rfl⟩
theorem verts_cons (t : Tk) (l : List Tk) : verts (t :: l) = if t.1 = t.2 then t.1 :: verts l else verts l := by
 unfold verts
 by_cases h : t.1 = t.2
 · simp [List.filter_cons, h]
 · simp [List.filter_cons, h]
theorem verts_append (l m : List Tk) : verts (l ++ m) = verts l ++ verts m := by simp [verts]
theorem verts_nodup : ∀ {l : List Tk}, l.Nodup → (verts l).Nodup
 | [], _ => by simp [verts]
 | t :: l, h => by
   have h2 := List.nodup_cons.1 h
   rw [verts_cons]
   split
   · rename_i e
     refine List.nodup_cons.2 ⟨fun hm => h2.1 ?_, verts_nodup h2.2⟩
     have := verts_mem.1 hm
     obtain ⟨a, b⟩ := t
     simp only at e this
     rw [e] at this
     rw [e]; exact this
   · exact verts_nodup h2.2
structure Acc (l : List Tk) : Prop where
 nod : l.Nodup
 clo : ∃ r, Clo l r
 own : ∀ t ∈ l, (t.1, t.1) ∈ l
 num : arcN l + 2 = 2 * (verts l).length
theorem Acc.perm {l m : List Tk} (h : Acc l) (hp : l.Perm m) (hc : ∃ r, Clo m r) : Acc m := by
 have hv : (verts l).length = (verts m).length := ((hp.filter _).map _).length_eq
 have ha : arcN l = arcN m := (hp.filter _).length_eq
 exact ⟨hp.nodup_iff.1 h.nod, hc, fun t ht => hp.mem_iff.1 (h.own t (hp.mem_iff.2 ht)), by rw [← ha, ← hv]; exact h.num⟩
theorem Acc.rot {a b : List Tk} (h : Acc (a ++ b)) : Acc (b ++ a) := by
 obtain ⟨r, hr⟩ := h.clo
 exact h.perm List.perm_append_comm (clo_rot hr)
theorem Acc.ne {l : List Tk} (h : Acc l) : l ≠ [] := fun e => by
 have := h.num
 subst e
 simp [arcN, verts] at this
theorem Acc.came {l : List Tk} (h : Acc l) {r : Nat} (hr : Clo l r) : (r :: psh [r] l).Perm (verts l) := by
 have hn := psh_num hr
 have := h.num
 refine perm_of_len (verts_nodup h.nod) (fun x hx => ?_) (by simp at hn ⊢; omega)
 have hx := verts_mem.1 hx
 rcases psh_in hr _ hx with e | e
 · simp at e; simp [e]
 · exact List.mem_cons_of_mem _ e
theorem Acc.once {l : List Tk} (h : Acc l) {r : Nat} (hr : Clo l r) : (r :: psh [r] l).Nodup := (h.came hr).nodup_iff.2 (verts_nodup h.nod)
theorem leaf_back {u v : Nat} {q : List Tk} {t : Tk} (huv : u ≠ v) (hq : Acc (q ++ [t])) (ht : t.2 = u) (hn : ((u, v) :: (v, v) :: (v, u) :: (q ++ [t])).Nodup) : Acc ((u, v) :: (v, v) :: (v, u) :: (q ++ [t])) := by
 obtain ⟨r, hr⟩ := hq.clo
 obtain ⟨r2, h2⟩ := run_top hr
 simp only [List.cons.injEq] at h2
 have hru : r = u := h2.1.trans ht
 subst hru
 refine ⟨hn, ⟨r, ?_⟩, fun x hx => ?_, ?_⟩
 · refine run_cons.2 ⟨[v, r], stp_push (fun e => huv e.symm) (by simp), run_cons.2 ⟨[v, r], stp_stay _ _, run_cons.2 ⟨[r], stp_pop huv _, hr⟩⟩⟩
 · have hrr : (r, r) ∈ q ++ [t] := by
     cases hc : q ++ [t] with
     | nil => simp at hc
     | cons x y =>
       rw [hc] at hr
       have := run_head hr
       have h3 := hq.own x (by rw [hc]; simp)
       rw [hc] at h3
       simp at this
       rw [← this] at h3; exact h3
   simp only [List.mem_cons] at hx
   rcases hx with rfl | rfl | rfl | hx
   · exact List.mem_cons_of_mem _ (List.mem_cons_of_mem _ (List.mem_cons_of_mem _ hrr))
   · simp
   · simp
   · exact List.mem_cons_of_mem _ (List.mem_cons_of_mem _ (List.mem_cons_of_mem _ (hq.own x hx)))
 · have := hq.num
   simp only [arcN_cons, verts_cons, if_neg huv, if_neg (fun e : v = r => huv e.symm), if_true, List.length_cons]
   omega
theorem leaf_away {u v : Nat} {q : List Tk} (huv : u ≠ v) (hq : q ≠ []) (h : Acc ((u, v) :: (v, v) :: (v, u) :: q)) : Acc q := by
 obtain ⟨r, hr⟩ := h.clo
 have hru : r = u := by have := run_head hr; simpa using this
 subst hru
 have hs1 : stp [r] (r, v) = some [v, r] := stp_push (fun e => huv e.symm) (by simp)
 have hs2 : stp [v, r] (v, v) = some [v, r] := stp_stay _ _
 have hs3 : stp [v, r] (v, r) = some [r] := stp_pop huv _
 obtain ⟨y, h1, h2⟩ := run_cons.1 hr
 obtain rfl := Option.some.inj (hs1.symm.trans h1)
 obtain ⟨y, h1, h2⟩ := run_cons.1 h2
 obtain rfl := Option.some.inj (hs2.symm.trans h1)
 obtain ⟨y, h1, h2⟩ := run_cons.1 h2
 obtain rfl := Option.some.inj (hs3.symm.trans h1)
 have hp : psh [r] ((r, v) :: (v, v) :: (v, r) :: q) = v :: psh [r] q := by
   rw [psh_cons hs1, if_pos (by simp), psh_cons hs2, if_neg (by simp), psh_cons hs3, if_neg (by simp)]
 have ho := h.once hr
 rw [hp] at ho
 have hnv : ∀ t ∈ q, t.1 ≠ v := fun t ht e => by
   have := psh_in h2 t ht
   rw [e] at this
   rcases this with e2 | e2
   · simp at e2; exact huv e2.symm
   · exact (List.nodup_cons.1 (List.nodup_cons.1 ho).2).1 e2
 refine ⟨(List.nodup_cons.1 (List.nodup_cons.1 (List.nodup_cons.1 h.nod).2).2).2, ⟨r, h2⟩, fun t ht => ?_, ?_⟩
 · have := h.own t (by simp [ht])
   simp only [List.mem_cons, Prod.mk.injEq] at this
   rcases this with ⟨e1, e2⟩ | ⟨e1, e2⟩ | ⟨e1, e2⟩ | e
   · exact absurd (e1.symm.trans e2) huv
   · exact absurd e1 (hnv t ht)
   · exact absurd (e2.symm.trans e1) huv
   · exact e
 · have := h.num
   simp only [arcN_cons, verts_cons, if_neg huv, if_neg (fun e : v = r => huv e.symm), if_true, List.length_cons] at this
   omega
theorem first_pop : ∀ {l : List Tk} {u v : Nat} {r z : List Nat} (vs0 : List Tk), (∀ t ∈ vs0, t = (v, v)) → u ≠ v → run (v :: u :: r) l = some z → z.length ≤ r.length + 1 →
   ∃ p x y vs q, (u, v) :: (vs0 ++ l) = p ++ (x, y) :: (vs ++ (y, x) :: q) ∧ x ≠ y ∧ (∀ t ∈ vs, t = (y, y)) ∧ ((p = [] ∧ x = u) ∨ ∃ p' t, p = p' ++ [t] ∧ t.2 = x)
 | [], u, v, r, z, vs0, h0, huv, h, hl => by
   have : v :: u :: r = z := by simpa [run] using h
   subst this
   simp at hl; omega
 | t :: l, u, v, r, z, vs0, h0, huv, h, hl => by
   obtain ⟨y, h1, h2⟩ := run_cons.1 h
   obtain ⟨t1, t2⟩ := t
   obtain ⟨r2, h3, h4⟩ := stp_cases h1
   simp only [List.cons.injEq] at h3
   obtain ⟨rfl, rfl⟩ := h3
   simp only at h4
   rcases h4 with ⟨rfl, rfl⟩ | ⟨hn, r', hr, rfl⟩ | ⟨hn, hh, rfl⟩
   · obtain ⟨p, x, y, vs, q, e, a1, a2, a3⟩ := first_pop (l := l) (vs0 ++ [(t2, t2)]) (fun t ht => by
       rcases List.mem_append.1 ht with ht | ht
       · exact h0 t ht
       · simpa using ht) huv h2 hl
     exact ⟨p, x, y, vs, q, by rw [← e]; simp, a1, a2, a3⟩
   · simp only [List.cons.injEq] at hr
     obtain ⟨rfl, rfl⟩ := hr
     exact ⟨[], u, v, vs0, l, rfl, huv, h0, .inl ⟨rfl, rfl⟩⟩
   · obtain ⟨p, x, y, vs, q, e, a1, a2, a3⟩ := first_pop (l := l) [] (fun t ht => by cases ht) (fun e => hn e.symm) h2 (by simp; omega)
     refine ⟨(u, v) :: (vs0 ++ p), x, y, vs, q, ?_, a1, a2, .inr ?_⟩
     · simp only [List.nil_append] at e
       rw [e]; simp
     · rcases a3 with ⟨rfl, rfl⟩ | ⟨p', t, rfl, ht⟩
       · rcases List.eq_nil_or_concat vs0 with e0 | ⟨a, b, e0⟩
         · subst e0
           exact ⟨[], (u, x), by simp, rfl⟩
         · rw [List.concat_eq_append] at e0
           subst e0
           refine ⟨(u, x) :: a, b, by simp, ?_⟩
           rw [h0 b (by simp)]
       · exact ⟨(u, v) :: (vs0 ++ p'), t, by simp, ht⟩
theorem Acc.leaf {l : List Tk} (h : Acc l) (hl : 1 < l.length) : ∃ a u v b, l = a ++ b ∧ u ≠ v ∧ ∃ q t, b ++ a = (u, v) :: (v, v) :: (v, u) :: (q ++ [t]) ∧ t.2 = u := by
 -- rotated so that an arc stands first
 obtain ⟨a0, u0, v0, b0, e0, huv0⟩ : ∃ a0 u0 v0 b0, l = a0 ++ (u0, v0) :: b0 ∧ u0 ≠ v0 := by
   have : ∃ t ∈ l, t.1 ≠ t.2 := by
     refine Classical.byContradiction fun hc => ?_
     have hall : ∀ t ∈ l, t.1 = t.2 := fun t ht => Classical.byContradiction fun hc2 => hc ⟨t, ht, hc2⟩
     have h1 : arcN l = 0 := by
       unfold arcN
       rw [List.length_eq_zero_iff, List.filter_eq_nil_iff]
       intro t ht
       simp [hall t ht]
     have h2 : (verts l).length = l.length := by
       unfold verts
       rw [List.length_map, List.filter_eq_self.2 (fun t ht => by simp [hall t ht])]
     have := h.num
     omega
   obtain ⟨⟨u, v⟩, ht, hne⟩ := this
   obtain ⟨a, b, e⟩ := List.append_of_mem ht
   exact ⟨a, u, v, b, e, hne⟩
 have h1 : Acc ((u0, v0) :: b0 ++ a0) := (e0 ▸ h).rot
 obtain ⟨r, hr⟩ := h1.clo
 have hru : r = u0 := by have := run_head hr; simpa using this
 subst hru
 obtain ⟨y, h2, h3⟩ := run_cons.1 hr
 obtain rfl := Option.some.inj ((stp_push (fun e => huv0 e.symm) (by simp) : stp [r] (r, v0) = some [v0, r]).symm.trans h2)
 obtain ⟨p, x, y, vs, q, e, a1, a2, a3⟩ := first_pop (l := b0 ++ a0) (u := r) (v := v0) (r := []) [] (fun t ht => by cases ht) huv0 h3 (by simp)
 simp only [List.nil_append] at e
 -- rotated so that this leaf stands first
 have h4 : Acc ((x, y) :: (vs ++ (y, x) :: q) ++ p) := by
   have : Acc (p ++ (x, y) :: (vs ++ (y, x) :: q)) := by rw [← e]; exact h1
   exact this.rot
 obtain ⟨r4, hr4⟩ := h4.clo
 have : r4 = x := by have := run_head hr4; simpa using this
 subst this
 have hvs : vs = [(y, y)] := by
   match vs, a2 with
   | [], _ =>
     exfalso
     simp only [List.nil_append, List.cons_append] at hr4 h4
     have hs1 : stp [r4] (r4, y) = some [y, r4] := stp_push (fun e => a1 e.symm) (by simp)
     have hs3 : stp [y, r4] (y, r4) = some [r4] := stp_pop a1 _
     obtain ⟨z, g1, g2⟩ := run_cons.1 hr4
     obtain rfl := Option.some.inj (hs1.symm.trans g1)
     obtain ⟨z, g1, g2⟩ := run_cons.1 g2
     obtain rfl := Option.some.inj (hs3.symm.trans g1)
     have ho := h4.once hr4
     rw [psh_cons hs1, if_pos (by simp), psh_cons hs3, if_neg (by simp)] at ho
     have hy : (y, y) ∈ q ++ p := by
       have := h4.own (y, r4) (by simp)
       simp only [List.mem_cons, Prod.mk.injEq] at this
       rcases this with ⟨e1, e2⟩ | ⟨e1, e2⟩ | e
       · exact absurd e1.symm a1
       · exact absurd e2.symm a1
       · exact e
     rcases psh_in g2 _ hy with e2 | e2
     · simp at e2; exact a1 e2.symm
     · exact (List.nodup_cons.1 (List.nodup_cons.1 ho).2).1 e2
   | [w], a2 => rw [a2 w (by simp)]
   | w :: w2 :: vs, a2 =>
     exfalso
     have hn := h4.nod
     rw [a2 w (by simp), a2 w2 (by simp)] at hn
     simp at hn
 subst hvs
 have hq : ∃ q' t, q ++ p = q' ++ [t] ∧ t.2 = r4 := by
   rcases a3 with ⟨rfl, rfl⟩ | ⟨p', t, rfl, ht⟩
   · rcases List.eq_nil_or_concat q with e1 | ⟨a, b, e1⟩
     · subst e1
       exfalso
       have := h4.num
       have h5 := h4.own (r4, y) (by simp)
       simp only [List.append_nil, List.nil_append, List.cons_append, List.mem_cons, Prod.mk.injEq, List.not_mem_nil, or_false] at h5
       rcases h5 with ⟨_, e⟩ | ⟨e, _⟩ | ⟨e, _⟩
       · exact a1 e
       · exact a1 e
       · exact a1 e
     · rw [List.concat_eq_append] at e1
       subst e1
       refine ⟨a, b, by simp, ?_⟩
       have : Clo (((r4, y) :: ([(y, y)] ++ (y, r4) :: a)) ++ [b]) r4 := by simpa using hr4
       obtain ⟨r2, h2⟩ := run_top this
       simpa using (List.cons.inj h2).1.symm
   · exact ⟨q ++ p', t, by simp, ht⟩
 obtain ⟨q', t, hq1, hq2⟩ := hq
 -- l itself is turned so
 have hb : ∃ a b, l = a ++ b ∧ b ++ a = (r4, y) :: ([(y, y)] ++ (y, r4) :: q) ++ p := by
   have e2 : (r, v0) :: b0 ++ a0 = p ++ (r4, y) :: ([(y, y)] ++ (y, r4) :: q) := e
   subst e0
   rcases List.append_eq_append_iff.1 e2 with ⟨c, e3, e4⟩ | ⟨c, e3, e4⟩
   · -- p = (r, v0) :: b0 ++ c, a0 = c ++ rest
     refine ⟨c, (r4, y) :: ([(y, y)] ++ (y, r4) :: q) ++ (r, v0) :: b0, ?_, ?_⟩
     · rw [e4]; simp
     · rw [e3]; simp
   · refine ⟨a0 ++ p, c, ?_, ?_⟩
     · rw [e3]; simp
     · rw [e4]; simp
 obtain ⟨a, b, e3, e4⟩ := hb
 refine ⟨a, r4, y, b, e3, a1, q', t, ?_, hq2⟩
 rw [e4]
 simp [hq1]
end Go.Proofs.Ytdahghkmejnlgaa.Tr
namespace Go.Proofs.Ytdahghkmejnlgaa.Tr
open Go Go.RowKit
theorem acc_goes {l : List Tk} {r : Nat} (hn : l.Nodup) : (run [r] l = some [r] ∧ (r :: psh [r] l).Nodup ∧ (verts l).length = (psh [r] l).length + 1) ↔ (Acc l ∧ Clo l r) := by
 constructor
 · rintro ⟨h1, h2, h3⟩
   have hp : (r :: psh [r] l).Perm (verts l) := perm_of_len (verts_nodup hn) (fun x hx => by
     rcases psh_in h1 _ (verts_mem.1 hx) with e | e
     · simp at e; simp [e]
     · exact List.mem_cons_of_mem _ e) (by simp [h3])
   refine ⟨⟨hn, ⟨r, h1⟩, fun t ht => ?_, ?_⟩, h1⟩
   · refine verts_mem.1 (hp.mem_iff.1 ?_)
     rcases psh_in h1 _ ht with e | e
     · simp at e; simp [e]
     · exact List.mem_cons_of_mem _ e
   · have := psh_num h1
     simp at this
     omega
 · rintro ⟨h, h1⟩
   exact ⟨h1, h.once h1, by have := (h.came h1).length_eq; simpa using this.symm⟩
theorem Acc.own2 {l : List Tk} (h : Acc l) {t : Tk} (ht : t ∈ l) : (t.2, t.2) ∈ l := by
 obtain ⟨a, b, rfl⟩ := List.append_of_mem ht
 have h1 : Acc (t :: b ++ a) := h.rot
 have h2 : Acc ((b ++ a) ++ [t]) := by
   have := (show Acc ([t] ++ (b ++ a)) from by simpa using h1).rot
   exact this
 obtain ⟨r, hr⟩ := h2.clo
 obtain ⟨r2, e⟩ := run_top hr
 have hrt : r = t.2 := (List.cons.inj e).1
 subst hrt
 have h3 : ∃ x m, (b ++ a) ++ [t] = x :: m := by
   cases hc : (b ++ a) ++ [t] with
   | nil => simp at hc
   | cons x m => exact ⟨x, m, rfl⟩
 obtain ⟨x, m, e2⟩ := h3
 rw [e2] at hr
 have hx : x.1 = t.2 := by have := run_head hr; simpa using this.symm
 have h4 := h2.own x (by rw [e2]; simp)
 rw [hx] at h4
 simp only [List.mem_append, List.mem_cons, List.not_mem_nil, or_false] at h4 ⊢
 rcases h4 with (h4 | h4) | h4
 · exact .inr (.inr h4)
 · exact .inl h4
 · exact .inr (.inl h4)
theorem stp_lift {s z b : List Nat} {t : Tk} {w : Nat} (hw : t.2 ≠ w) (h : stp s t = some z) : stp (s ++ w :: b) t = some (z ++ w :: b) := by
 obtain ⟨t1, t2⟩ := t
 obtain ⟨r, h1, h2⟩ := stp_cases h
 simp only at h1 h2 hw
 subst h1
 rcases h2 with ⟨rfl, rfl⟩ | ⟨hn, r', hr, rfl⟩ | ⟨hn, hh, rfl⟩
 · exact stp_stay _ _
 · subst hr
   exact stp_pop hn _
 · refine stp_push hn ?_
   cases r with
   | nil => simpa using fun e => hw e.symm
   | cons x r => simpa using hh
theorem run_lift {b : List Nat} {w : Nat} : ∀ {l : List Tk} {s z : List Nat}, (∀ t ∈ l, t.2 ≠ w) → run s l = some z → run (s ++ w :: b) l = some (z ++ w :: b)
 | [], s, z, _, h => by
   have : s = z := by simpa [run] using h
   subst this; rfl
 | t :: l, s, z, hw, h => by
   obtain ⟨y, h1, h2⟩ := run_cons.1 h
   exact run_cons.2 ⟨_, stp_lift (hw t (by simp)) h1, run_lift (fun x hx => hw x (by simp [hx])) h2⟩
theorem Acc.link {u v : Nat} {a b : List Tk} (ha : Acc ((u, u) :: a)) (hb : Acc ((v, v) :: b)) (hd : ∀ x, (x, x) ∈ (u, u) :: a → (x, x) ∉ (v, v) :: b) : Acc ((u, u) :: (u, v) :: ((v, v) :: b ++ (v, u) :: a)) := by
 have huv : u ≠ v := fun e => by subst e; exact hd u (by simp) (by simp)
 obtain ⟨r, hr⟩ := ha.clo
 have : r = u := by have := run_head hr; simpa using this
 subst this
 obtain ⟨r2, hr2⟩ := hb.clo
 have : r2 = v := by have := run_head hr2; simpa using this
 subst this
 have hbu : ∀ t ∈ (r2, r2) :: b, t.2 ≠ r := fun t ht e => hd r (by simp) (by have := hb.own2 ht; rwa [e] at this)
 have hab : ∀ t, t ∈ (r, r) :: a → t ∉ (r2, r2) :: b := fun t h1 h2 => hd _ (ha.own t h1) (hb.own t h2)
 have huvA : (r, r2) ∉ (r, r) :: a := fun h => hd _ (ha.own2 h) (by simp)
 have hvuA : (r2, r) ∉ (r, r) :: a := fun h => hd _ (ha.own _ h) (by simp)
 have huvB : (r, r2) ∉ (r2, r2) :: b := fun h => hd _ (by simp) (hb.own _ h)
 have hvuB : (r2, r) ∉ (r2, r2) :: b := fun h => hd _ (by simp) (hb.own2 h)
 have hp : ((r, r) :: (r, r2) :: ((r2, r2) :: b ++ (r2, r) :: a)).Perm ((r, r2) :: (r2, r) :: ((r, r) :: a ++ (r2, r2) :: b)) := by
   refine (List.Perm.swap (r, r2) (r, r) _).trans (List.Perm.cons _ ?_)
   have h1 : ((r2, r2) :: b ++ (r2, r) :: a).Perm ((r2, r) :: (a ++ (r2, r2) :: b)) := by
     have := @List.perm_append_comm _ ((r2, r2) :: b) ((r2, r) :: a)
     simpa using this
   exact (h1.cons (r, r)).trans (List.Perm.swap _ _ _)
 have hn : ((r, r2) :: (r2, r) :: ((r, r) :: a ++ (r2, r2) :: b)).Nodup := by
   refine List.nodup_cons.2 ⟨fun h => ?_, List.nodup_cons.2 ⟨fun h => ?_, List.nodup_append.2 ⟨ha.nod, hb.nod, fun x hx y hy e => hab x hx (e ▸ hy)⟩⟩⟩
   · rcases List.mem_cons.1 h with h | h
     · simp at h; exact huv h.1
     · rcases List.mem_append.1 h with h | h
       · exact huvA h
       · exact huvB h
   · rcases List.mem_append.1 h with h | h
     · exact hvuA h
     · exact hvuB h
 refine ⟨hp.nodup_iff.2 hn, ⟨r, ?_⟩, fun t ht => ?_, ?_⟩
 · refine run_cons.2 ⟨[r], stp_stay _ _, run_cons.2 ⟨[r2, r], stp_push (fun e => huv e.symm) (by simp), ?_⟩⟩
   refine run_append.2 ⟨[r2, r], ?_, run_cons.2 ⟨[r], stp_pop huv _, ?_⟩⟩
   · exact run_lift (s := [r2]) (z := [r2]) (b := []) hbu hr2
   · obtain ⟨y, h1, h2⟩ := run_cons.1 hr
     obtain rfl := Option.some.inj ((stp_stay _ _ : stp [r] (r, r) = _).symm.trans h1)
     exact h2
 · have := hp.mem_iff.1 ht
   refine hp.mem_iff.2 ?_
   refine List.mem_cons_of_mem _ (List.mem_cons_of_mem _ ?_)
   rcases List.mem_cons.1 this with rfl | h
   · exact List.mem_append_left _ (by simp)
   rcases List.mem_cons.1 h with rfl | h
   · exact List.mem_append_right _ (by simp)
   rcases List.mem_append.1 h with h | h
   · exact List.mem_append_left _ (ha.own t h)
   · exact List.mem_append_right _ (hb.own t h)
 · have hv : (verts ((r, r) :: (r, r2) :: ((r2, r2) :: b ++ (r2, r) :: a))).length = (verts ((r, r2) :: (r2, r) :: ((r, r) :: a ++ (r2, r2) :: b))).length := ((hp.filter _).map _).length_eq
   have hA : arcN ((r, r) :: (r, r2) :: ((r2, r2) :: b ++ (r2, r) :: a)) = arcN ((r, r2) :: (r2, r) :: ((r, r) :: a ++ (r2, r2) :: b)) := (hp.filter _).length_eq
   rw [hv, hA]
   have h1 := ha.num
   have h2 := hb.num
   rw [arcN_cons, arcN_cons, verts_cons, verts_cons, if_neg huv, if_neg huv, if_neg (fun e : r2 = r => huv e.symm), if_neg (fun e : r2 = r => huv e.symm), arcN_append, verts_append, List.length_append]
   omega
theorem arc_vert : ∀ l : List Tk, arcN l + (verts l).length = l.length
 | [] => rfl
 | t :: l => by
   have := arc_vert l
   rw [arcN_cons, verts_cons]
   split <;> simp <;> omega
theorem Acc.len {l : List Tk} (h : Acc l) : l.length + 2 = 3 * (verts l).length := by
 have := h.num
 have := arc_vert l
 omega
end Go.Proofs.Ytdahghkmejnlgaa.Tr
namespace Go.Proofs.Ytdahghkmejnlgaa.Tr
open Go Go.RowKit
def dk (n : Nat) (t : Int) : Option Tk :=
 if 0 ≤ t ∧ t < n then some (t.toNat, t.toNat)
 else if (n : Int) ≤ t ∧ t.toNat < n * (n + 1) then (if t.toNat / n - 1 = t.toNat % n then none else some (t.toNat / n - 1, t.toNat % n))
 else none
def ek (n : Nat) (e : Tk) : Int := if e.1 = e.2 then (e.1 : Int) else ((n * (e.1 + 1) + e.2 : Nat) : Int)
theorem dk_some {n : Nat} {t : Int} {e : Tk} (h : dk n t = some e) : ek n e = t ∧ e.1 < n ∧ e.2 < n := by
 unfold dk at h
 split at h
 · rename_i c
   cases h
   refine ⟨?_, by omega, by omega⟩
   unfold ek
   rw [if_pos rfl]; omega
 · split at h
   · rename_i c1 c
     split at h
     · cases h
     · rename_i c2
       cases h
       have hn : 0 < n := by
         rcases Nat.eq_zero_or_pos n with e | e
         · subst e; simp at c
         · exact e
       have h1 : t.toNat / n < n + 1 := Nat.div_lt_of_lt_mul c.2
       have h2 : 1 ≤ t.toNat / n := (Nat.le_div_iff_mul_le hn).2 (by omega)
       refine ⟨?_, by simp only; omega, Nat.mod_lt _ hn⟩
       unfold ek
       rw [if_neg c2]
       simp only
       rw [show t.toNat / n - 1 + 1 = t.toNat / n by omega, Nat.div_add_mod]
       omega
   · cases h
theorem dk_ek {n : Nat} {e : Tk} (h1 : e.1 < n) (h2 : e.2 < n) : dk n (ek n e) = some e := by
 obtain ⟨u, v⟩ := e
 simp only at h1 h2
 unfold ek dk
 by_cases c : u = v
 · subst c
   simp only [if_true]
   rw [if_pos (by omega)]
   simp
 · simp only [c, if_false]
   have hle : n * 1 ≤ n * (u + 1) := Nat.mul_le_mul_left n (by omega)
   have hlt : n * (u + 1) + v < n * (n + 1) := by
     have : n * (u + 1) + n ≤ n * (n + 1) := by
       have := Nat.mul_le_mul_left n (show u + 1 + 1 ≤ n + 1 by omega)
       rw [Nat.mul_add n (u + 1) 1, Nat.mul_one] at this
       exact this
     omega
   rw [if_neg (by omega), if_pos ⟨by omega, by rw [Int.toNat_natCast]; exact hlt⟩]
   have e1 : (n * (u + 1) + v) / n = u + 1 := by
     rw [Nat.mul_add_div (by omega), Nat.div_eq_of_lt h2]
   have e2 : (n * (u + 1) + v) % n = v := by
     rw [Nat.mul_add_mod, Nat.mod_eq_of_lt h2]
   rw [Int.toNat_natCast, e1, e2, if_neg (by omega)]
   simp
theorem dk_inj {n : Nat} {s t : Int} {e : Tk} (h : dk n s = some e) (k : dk n t = some e) : s = t := (dk_some h).1.symm.trans (dk_some k).1
theorem dk_vert {n : Nat} {t : Int} {u : Nat} (h : dk n t = some (u, u)) : t = (u : Int) ∧ u < n := by
 have := dk_some h
 unfold ek at this
 simp only [if_true] at this
 exact ⟨this.1.symm, this.2.1⟩
theorem dk_of_vert {n u : Nat} (h : u < n) : dk n (u : Int) = some (u, u) := by
 have := dk_ek (e := (u, u)) h h
 unfold ek at this
 simpa using this
def tokT (n : Nat) (t : Int) : Int × Int × Bool × Bool := match dk n t with
 | none => (0, 0, false, false)
 | some (u, v) => if u = v then ((u : Int), 0, false, true) else ((u : Int), (v : Int), true, true)
theorem nn64 {n : Nat} (h : n ≤ 64) : n * (n + 1) ≤ 4160 := Nat.le_trans (Nat.mul_le_mul h (show n + 1 ≤ 65 by omega)) (by decide)
theorem sized_eq {N : Nat} (hN : 1 ≤ N) (n : Int) : m_u69 N n = some (decide (1 ≤ n ∧ n ≤ 64)) := by
 obtain ⟨N, rfl⟩ : ∃ M, N = M + 1 := ⟨N - 1, by omega⟩
 rw [m_u69_eq, cd]
 by_cases c : 1 ≤ n <;> simp [c]
theorem in_eq {N : Nat} (hN : 2 ≤ N) (n v : Int) : m_u83 N (n, v) = some (decide ((1 ≤ n ∧ n ≤ 64) ∧ 0 ≤ v ∧ v < n)) := by
 obtain ⟨N, rfl⟩ : ∃ M, N = M + 1 := ⟨N - 1, by omega⟩
 rw [m_u83_eq, sized_eq (by omega), ob]
 by_cases c : 1 ≤ n ∧ n ≤ 64
 · simp only [c, and_self, decide_true, cond_true, cd, true_and]
   by_cases c2 : 0 ≤ v <;> simp [c2]
 · simp [c]
theorem token_eq {N : Nat} (hN : 2 ≤ N) {n : Nat} (h1 : 1 ≤ n) (h2 : n ≤ 64) (t : Int) : m_u68 N ((n : Int), t) = some (tokT n t) := by
 obtain ⟨N, rfl⟩ : ∃ M, N = M + 1 := ⟨N - 1, by omega⟩
 have hnn := nn64 h2
 have hw : IntKind.wrap .i64 ((n : Int) * (IntKind.wrap .i64 ((n : Int) + (1 : Int)))) = ((n * (n + 1) : Nat) : Int) := by
   rw [w64 (x := (n : Int) + 1) (by omega) (by omega), show (n : Int) * ((n : Int) + 1) = ((n * (n + 1) : Nat) : Int) by rw [Int.natCast_mul, Int.natCast_add]; rfl, w64 (by omega) (by omega)]
 rw [m_u68_eq, sized_eq (by omega), ob, hw]
 rw [decide_eq_true (show (1 : Int) ≤ (n : Int) ∧ (n : Int) ≤ 64 by omega)]
 simp only [Bool.not_true, cond_false, cd]
 unfold tokT dk
 by_cases c1 : t < 0
 · rw [if_pos c1, if_neg (by omega), if_neg (by omega)]
 rw [if_neg c1]
 by_cases c2 : ((n * (n + 1) : Nat) : Int) ≤ t
 · have hle : n * 1 ≤ n * (n + 1) := Nat.mul_le_mul_left n (by omega)
   rw [if_pos c2, if_neg (by omega), if_neg (by omega)]
 rw [if_neg c2]
 by_cases c3 : t < n
 · rw [if_pos c3, if_pos (by omega)]
   simp; omega
 rw [if_neg c3, if_neg (by omega), if_pos (by omega)]
 obtain ⟨k, rfl⟩ : ∃ k : Nat, t = k := ⟨t.toNat, by omega⟩
 rw [quo_of (by omega), ob, rem_of (by omega), ob, tdiv_nat, tmod_nat, Int.toNat_natCast]
 have h3 : k / n < n + 1 := Nat.div_lt_of_lt_mul (by omega)
 have h4 : 1 ≤ k / n := (Nat.le_div_iff_mul_le (by omega)).2 (by omega)
 have h5 : k % n < n := Nat.mod_lt _ (by omega)
 rw [w64 (x := ((k / n : Nat) : Int)) (by omega) (by omega), w64 (x := ((k / n : Nat) : Int) - 1) (by omega) (by omega)]
 by_cases c4 : k / n - 1 = k % n
 · rw [if_pos (by omega), if_pos c4]
 · rw [if_neg (by omega), if_neg c4]
   simp only [c4, if_false]
   congr 2; omega
def gs : List Nat → List Nat → List Tk → Option (List Nat × List Nat)
 | s, c, [] => some (s, c)
 | s, c, t :: l => match stp s t with
   | none => none
   | some z => if s.length < z.length then (if t.2 ∈ c then none else gs z (c ++ [t.2]) l) else gs z c l
theorem gs_iff : ∀ {l : List Tk} {s c z c' : List Nat}, c.Nodup → (gs s c l = some (z, c') ↔ run s l = some z ∧ c' = c ++ psh s l ∧ (c ++ psh s l).Nodup)
 | [], s, c, z, c', hc => by
   simp only [gs, run, psh, List.append_nil, Option.some.injEq, Prod.mk.injEq]
   constructor
   · rintro ⟨rfl, rfl⟩; exact ⟨rfl, rfl, hc⟩
   · rintro ⟨rfl, rfl, _⟩; exact ⟨rfl, rfl⟩
 | t :: l, s, c, z, c', hc => by
   rw [gs, run, psh]
   cases hs : stp s t with
   | none => simp
   | some y =>
     simp only
     by_cases hl : s.length < y.length
     · rw [if_pos hl, if_pos hl]
       by_cases hm : t.2 ∈ c
       · rw [if_pos hm]
         constructor
         · intro h; cases h
         · rintro ⟨_, _, h⟩
           exact absurd rfl ((List.nodup_append.1 h).2.2 t.2 hm t.2 (by simp))
       · rw [if_neg hm]
         have hc2 : (c ++ [t.2]).Nodup := List.nodup_append.2 ⟨hc, by simp, fun a ha b hb e => hm (by simp at hb; rw [← hb, ← e]; exact ha)⟩
         rw [gs_iff hc2]
         simp only [List.append_assoc, List.singleton_append]
     · rw [if_neg hl, if_neg hl]
       exact gs_iff hc
def TourI (n : Nat) (l : List Int) : Prop := ∃ T, l.map (dk n) = T.map some ∧ Acc T
theorem map_dk {n : Nat} : ∀ {l : List Int} {T : List Tk}, l.map (dk n) = T.map some → l = T.map (ek n)
 | [], T, h => by cases T <;> simp at h ⊢
 | x :: l, [], h => by simp at h
 | x :: l, t :: T, h => by
   simp only [List.map_cons, List.cons.injEq] at h
   rw [List.map_cons, ← map_dk h.2, (dk_some h.1).1]
theorem map_some_inj {α : Type} : ∀ {a b : List α}, a.map some = b.map some → a = b
 | [], [], _ => rfl
 | [], _ :: _, h => by simp at h
 | _ :: _, [], h => by simp at h
 | x :: a, y :: b, h => by
   simp only [List.map_cons, List.cons.injEq, Option.some.injEq] at h
   rw [h.1, map_some_inj h.2]
theorem map_dk_uniq {n : Nat} {l : List Int} {T S : List Tk} (h : l.map (dk n) = T.map some) (k : l.map (dk n) = S.map some) : T = S := by
 have : T.map some = S.map some := h.symm.trans k
 exact map_some_inj this
theorem tk_nodup {n : Nat} : ∀ {l : List Int} {T : List Tk}, l.map (dk n) = T.map some → (l.Nodup ↔ T.Nodup)
 | [], T, h => by cases T <;> simp at h ⊢
 | x :: l, [], h => by simp at h
 | x :: l, t :: T, h => by
   simp only [List.map_cons, List.cons.injEq] at h
   have ih := tk_nodup h.2
   have hm : x ∈ l ↔ t ∈ T := by
     constructor
     · intro hx
       have : dk n x ∈ T.map some := by rw [← h.2]; exact List.mem_map.2 ⟨x, hx, rfl⟩
       rw [h.1] at this
       simpa using this
     · intro ht
       have : some t ∈ l.map (dk n) := by rw [h.2]; exact List.mem_map.2 ⟨t, ht, rfl⟩
       obtain ⟨y, hy, hy2⟩ := List.mem_map.1 this
       rwa [dk_inj h.1 hy2]
   rw [List.nodup_cons, List.nodup_cons, ih, hm]
structure Cm (c : List Nat) (m : List (Int × Int)) : Prop where
 at_ : ∀ v : Nat, (mget (.i .i64) m (v : Int)).getD 0 = if v ∈ c then 1 else 0
 len : m.length = c.length
 pos : ∀ v x, mget (.i .i64) m v = some x → x = 1
theorem Cm.push {c : List Nat} {m : List (Int × Int)} (h : Cm c m) {v : Nat} (hv : v ∉ c) : Cm (c ++ [v]) (mput (.i .i64) m (v : Int) 1) := by
 have h0 := h.at_ v
 rw [if_neg hv] at h0
 have hn : mget (.i .i64) m (v : Int) = none := by
   cases hm : mget (.i .i64) m (v : Int) with
   | none => rfl
   | some x =>
     have := h.pos _ _ hm
     rw [hm, this] at h0
     simp at h0
 refine ⟨fun w => ?_, ?_, fun w x hx => ?_⟩
 · rw [get_put]
   by_cases e : v = w
   · subst e; simp
   · rw [if_neg (by omega), h.at_ w]
     have : (w ∈ c ++ [v]) ↔ w ∈ c := by simp only [List.mem_append, List.mem_singleton]; exact ⟨fun h => h.resolve_right fun e2 => e e2.symm, .inl⟩
     simp only [this]
 · rw [put_len, hn, h.len]; simp
 · rw [get_put] at hx
   split at hx
   · exact (Option.some.inj hx).symm
   · exact h.pos _ _ hx
structure Me (ms : List Nat) (m : List (Int × Int)) : Prop where
 mem : ∀ v : Nat, (mget (.i .i64) m (v : Int)).isSome = decide (v ∈ ms)
 len : m.length = ms.length
theorem Me.push {ms : List Nat} {m : List (Int × Int)} (h : Me ms m) {v : Nat} (hv : v ∉ ms) (x : Int) : Me (ms ++ [v]) (mput (.i .i64) m (v : Int) x) := by
 refine ⟨fun w => ?_, ?_⟩
 · rw [get_put]
   by_cases e : v = w
   · subst e; simp
   · rw [if_neg (by omega), h.mem w]
     have : (w ∈ ms ++ [v]) ↔ w ∈ ms := by simp only [List.mem_append, List.mem_singleton]; exact ⟨fun h => h.resolve_right fun e2 => e e2.symm, .inl⟩
     simp only [this]
 · rw [put_len, h.mem v, h.len]; simp [hv]
def wayI (s : List Nat) : List Int := s.reverse.map fun v : Nat => (v : Int)
theorem wayI_len (s : List Nat) : (wayI s).length = s.length := by simp [wayI]
theorem wayI_top (x : Nat) (r : List Nat) : (wayI (x :: r))[r.length]? = some (x : Int) := by
 simp [wayI, List.map_append]
theorem wayI_snd (x y : Nat) (r : List Nat) : (wayI (x :: y :: r))[r.length]? = some (y : Int) := by
 simp [wayI, List.map_append]
theorem wayI_push (x : Nat) (s : List Nat) : wayI (x :: s) = wayI s ++ [(x : Int)] := by simp [wayI]
theorem along_eq {N : Nat} (hN : 1 ≤ N) {u v x : Nat} {r c : List Nat} {came met : List (Int × Int)} (hl : r.length ≤ 100000) (huv : u ≠ v) (hc : Cm c came) :
   m_u18 N ((u : Int), (v : Int), wayI (x :: r), came, met) = some (match stp (x :: r) (u, v) with
     | none => (false, came, met, wayI (x :: r))
     | some z => if (x :: r).length < z.length then (if v ∈ c then (false, came, met, wayI (x :: r)) else (true, mput (.i .i64) came (v : Int) 1, met, wayI z)) else (true, came, met, wayI z)) := by
 obtain ⟨N, rfl⟩ : ∃ M, N = M + 1 := ⟨N - 1, by omega⟩
 have e1 : IntKind.wrap .i64 ((((wayI (x :: r)).length : Nat) : Int) - (1 : Int)) = (r.length : Int) := by
   rw [wayI_len, List.length_cons, w64 (by omega) (by omega)]; omega
 have hcv := hc.at_ v
 rw [m_u18_eq, e1]
 simp only [nth_of (wayI_top x r), ob, cdn, cd]
 by_cases hx : x = u
 rotate_left
 · rw [if_neg (by omega)]
   have : stp (x :: r) (u, v) = none := by
     cases r with
     | nil => simp [stp, show ¬ u = x from fun e => hx e.symm]
     | cons y r => simp [stp, show ¬ u = x from fun e => hx e.symm]
   rw [this]
 subst hx
 rw [if_pos rfl, hcv]
 have hpush : ∀ hh : r.head? ≠ some v, (if (0 : Int) < (if v ∈ c then 1 else 0) then some (false, came, met, wayI (x :: r)) else
     obind (appI (8 : Nat) (wayI (x :: r)) [(v : Int)]) fun z => some (true, mput (.i .i64) came (v : Int) (IntKind.wrap .i64 ((if v ∈ c then 1 else 0) + (1 : Int))), met, z)) =
     some (match stp (x :: r) (x, v) with
     | none => (false, came, met, wayI (x :: r))
     | some z => if (x :: r).length < z.length then (if v ∈ c then (false, came, met, wayI (x :: r)) else (true, mput (.i .i64) came (v : Int) 1, met, wayI z)) else (true, came, met, wayI z)) := fun hh => by
   rw [stp_push (fun e => huv e.symm) hh]
   have hlt : (x :: r).length < (v :: x :: r).length := by simp
   by_cases hv : v ∈ c
   · simp only [if_pos hv, if_pos hlt, if_pos (show (0 : Int) < 1 by decide)]
   · simp only [if_neg hv, if_pos hlt, if_neg (show ¬ (0 : Int) < 0 by decide)]
     rw [app_of (by omega) (by rw [wayI_len]; simp; omega), ob, wayI_push v]
     rfl
 cases r with
 | nil =>
   rw [if_neg (by simp)]
   exact hpush (by simp)
 | cons y r =>
   rw [if_pos (by simp only [List.length_cons]; omega)]
   have e2 : IntKind.wrap .i64 ((((y :: r).length : Nat) : Int) - (1 : Int)) = (r.length : Int) := by
     rw [List.length_cons, w64 (by omega) (by simp at hl; omega)]; omega
   rw [e2]
   simp only [nth_of (wayI_snd x y r), ob]
   by_cases hy : y = v
   · subst hy
     have hlt : ¬ (x :: y :: r).length < (y :: r).length := by simp
     have h9 : subI (wayI (x :: y :: r)) (0 : Int) (((y :: r).length : Nat) : Int) = some (wayI (y :: r)) := by
       rw [sub_take (by omega) (by rw [wayI_len]; simp only [List.length_cons]; omega), Int.toNat_natCast, wayI_push x]
       exact congrArg some (List.take_left' (l₁ := wayI (y :: r)) (l₂ := [(x : Int)]) (i := (y :: r).length) (wayI_len _))
     rw [if_pos rfl, h9, ob]
     simp only [stp_pop (fun e : y = x => huv e.symm), if_neg hlt]
   · rw [if_neg (by omega)]
     exact hpush (by simpa using fun e => hy e)
end Go.Proofs.Ytdahghkmejnlgaa.Tr
namespace Go.Proofs.Ytdahghkmejnlgaa.Tr
open Go Go.RowKit
theorem gs_cons_none {s c : List Nat} {t : Tk} {T : List Tk} (h : stp s t = none) : gs s c (t :: T) = none := by rw [gs, h]
theorem gs_cons_go {s c z : List Nat} {t : Tk} {T : List Tk} (h : stp s t = some z) (hl : ¬ s.length < z.length) : gs s c (t :: T) = gs z c T := by
 rw [gs, h]
 exact if_neg hl
theorem gs_cons_in {s c z : List Nat} {t : Tk} {T : List Tk} (h : stp s t = some z) (hl : s.length < z.length) (hm : t.2 ∈ c) : gs s c (t :: T) = none := by
 rw [gs, h]
 simp only
 rw [if_pos hl, if_pos hm]
theorem gs_cons_new {s c z : List Nat} {t : Tk} {T : List Tk} (h : stp s t = some z) (hl : s.length < z.length) (hm : t.2 ∉ c) : gs s c (t :: T) = gs z (c ++ [t.2]) T := by
 rw [gs, h]
 simp only
 rw [if_pos hl, if_neg hm]
theorem stp_len {s z : List Nat} {t : Tk} (h : stp s t = some z) : z.length ≤ s.length + 1 ∧ z ≠ [] := by
 obtain ⟨r, h1, h2⟩ := stp_cases h
 rcases h2 with ⟨_, rfl⟩ | ⟨_, r', hr, rfl⟩ | ⟨_, _, rfl⟩
 · exact ⟨by omega, by rw [h1]; simp⟩
 · exact ⟨by rw [h1]; simp; omega, by rw [hr]; simp⟩
 · exact ⟨by simp, by simp⟩
abbrev goesOut (n : Nat) (l : List Int) (i : Nat) (s c ms : List Nat) (o : (List Int × List (Int × Int) × List (Int × Int)) ⊕ Bool) : Prop :=
 (o = .inr false ∧ ∀ T z c', (l.drop i).map (dk n) = T.map some → gs s c T ≠ some (z, c')) ∨
   ∃ T z c' came' met', (l.drop i).map (dk n) = T.map some ∧ gs s c T = some (z, c') ∧ o = .inl (wayI z, came', met') ∧ Cm c' came' ∧ Me (ms ++ verts T) met'
theorem goesOut_step {n : Nat} {l : List Int} {i : Nat} {s c ms s' c' ms' : List Nat} {t : Int} {e : Tk} {o : (List Int × List (Int × Int) × List (Int × Int)) ⊕ Bool} (ht : l[i]? = some t) (he : dk n t = some e)
   (hg : ∀ T, gs s c (e :: T) = gs s' c' T) (hm : ∀ T, ms ++ verts (e :: T) = ms' ++ verts T) (h : goesOut n l (i + 1) s' c' ms' o) : goesOut n l i s c ms o := by
 rcases h with ⟨rfl, h⟩ | ⟨T, z, c2, came', met', h1, h2, h3, h4, h5⟩
 · refine .inl ⟨rfl, fun T z c2 hT => ?_⟩
   rw [drop_at ht, List.map_cons, he] at hT
   cases T with
   | nil => simp at hT
   | cons x T =>
     simp only [List.map_cons, List.cons.injEq, Option.some.injEq] at hT
     rw [← hT.1, hg]
     exact h T z c2 hT.2
 · refine .inr ⟨e :: T, z, c2, came', met', ?_, by rw [hg]; exact h2, h3, h4, by rw [hm]; exact h5⟩
   rw [drop_at ht, List.map_cons, he, h1]; rfl
theorem goesOut_stop {n : Nat} {l : List Int} {i : Nat} {s c ms : List Nat} {t : Int} {e : Tk} (ht : l[i]? = some t) (he : dk n t = some e) (hg : ∀ T, gs s c (e :: T) = none) : goesOut n l i s c ms (.inr false) := by
 refine .inl ⟨rfl, fun T z c2 hT => ?_⟩
 rw [drop_at ht, List.map_cons, he] at hT
 cases T with
 | nil => simp at hT
 | cons x T =>
   simp only [List.map_cons, List.cons.injEq, Option.some.injEq] at hT
   rw [← hT.1, hg]
   intro h; cases h
theorem goes_loop (N : Nat) (hN : Fu + 3 ≤ N) {n : Nat} (h1 : 1 ≤ n) (h2 : n ≤ 64) {l : List Int} (hl : l.length ≤ 1000) : ∀ (m i : Nat) (s c ms : List Nat) (came met : List (Int × Int)), l.length - i < m → i ≤ l.length → s ≠ [] → s.length ≤ i + 1 → Cm c came → Me ms met → (ms.map (fun v : Nat => (v : Int)) ++ l.drop i).Nodup →
   ∃ o, l_u80_1 N m ((n : Int), l, (l.length : Int), (i : Int), wayI s, came, met) = some o ∧ goesOut n l i s c ms o
 | 0, i, s, c, ms, came, met, h, _, _, _, _, _, _ => absurd h (by omega)
 | m + 1, i, s, c, ms, came, met, hm, hi, hs, hsl, hc, hme, hnd => by
   rw [l_u80_1_s, cd]
   by_cases q : i < l.length
   rotate_left
   · rw [if_neg (by omega)]
     have hd : l.drop i = [] := List.drop_eq_nil_of_le (by omega)
     exact ⟨_, rfl, .inr ⟨[], s, c, came, met, by rw [hd]; rfl, rfl, rfl, hc, by simpa [verts] using hme⟩⟩
   rw [if_pos (by omega)]
   obtain ⟨t, ht⟩ := get_at (xs := l) (i := i) q
   rw [nth_of ht, ob, token_eq (by omega) h1 h2, ob, w64n (by omega)]
   obtain ⟨x, r, rfl⟩ : ∃ x r, s = x :: r := by
     cases s with
     | nil => exact absurd rfl hs
     | cons x r => exact ⟨x, r, rfl⟩
   rw [drop_at ht] at hnd
   cases hd : dk n t with
   | none =>
     have htt : tokT n t = (0, 0, false, false) := by unfold tokT; rw [hd]
     rw [htt]
     refine ⟨_, rfl, .inl ⟨rfl, fun T z c2 hT => ?_⟩⟩
     rw [drop_at ht, List.map_cons, hd] at hT
     cases T with
     | nil => simp at hT
     | cons x T => simp at hT
   | some e =>
     obtain ⟨u, v⟩ := e
     by_cases huv : u = v
     · subst huv
       have htt : tokT n t = ((u : Int), 0, false, true) := by unfold tokT; rw [hd]; simp
       obtain ⟨htu, hun⟩ := dk_vert hd
       rw [htt]
       simp only [Bool.not_true, Bool.not_false, cond_false, cond_true]
       have e1 : IntKind.wrap .i64 ((((wayI (x :: r)).length : Nat) : Int) - (1 : Int)) = (r.length : Int) := by
         rw [wayI_len, List.length_cons, w64 (by omega) (by simp only [List.length_cons] at hsl; omega)]; omega
       rw [e1]
       simp only [nth_of (wayI_top x r), ob, cdn]
       by_cases hxu : x = u
       · subst hxu
         rw [if_pos rfl]
         have hnm : x ∉ ms := fun hx => (List.nodup_append.1 hnd).2.2 (x : Int) (List.mem_map.2 ⟨x, hx, rfl⟩) t (by simp) htu.symm
         obtain ⟨o, ho, hout⟩ := goes_loop N hN h1 h2 hl m (i + 1) (x :: r) c (ms ++ [x]) came _ (by omega) (by omega) (by simp) (by omega) hc (hme.push hnm _) (by
           rw [List.map_append, List.append_assoc]
           simp only [List.map_cons, List.map_nil, List.singleton_append]
           rw [← htu]; exact hnd)
         refine ⟨o, ho, goesOut_step ht hd (fun T => gs_cons_go (stp_stay _ _) (Nat.lt_irrefl _)) (fun T => ?_) hout⟩
         rw [verts_cons, if_pos rfl, List.append_assoc]; rfl
       · rw [if_neg (by omega)]
         refine ⟨_, rfl, goesOut_stop ht hd fun T => gs_cons_none ?_⟩
         cases r with
         | nil => simp [stp, show ¬ u = x from fun e => hxu e.symm]
         | cons y r => simp [stp, show ¬ u = x from fun e => hxu e.symm]
     · have htt : tokT n t = ((u : Int), (v : Int), true, true) := by unfold tokT; rw [hd]; simp [huv]
       rw [htt]
       simp only [Bool.not_true, Bool.not_false, cond_false, cond_true]
       rw [along_eq (by omega) (by simp only [List.length_cons] at hsl; omega) huv hc, ob]
       have hnd2 : (ms.map (fun v : Nat => (v : Int)) ++ l.drop (i + 1)).Nodup := by
         have h3 := List.nodup_append.1 hnd
         exact List.nodup_append.2 ⟨h3.1, (List.nodup_cons.1 h3.2.1).2, fun a ha b hb => h3.2.2 a ha b (by simp [hb])⟩
       have hv : ∀ T, ms ++ verts ((u, v) :: T) = ms ++ verts T := fun T => by rw [verts_cons, if_neg huv]
       cases hst : stp (x :: r) (u, v) with
       | none => exact ⟨_, rfl, goesOut_stop ht hd fun T => gs_cons_none hst⟩
       | some z =>
         have hzl := stp_len hst
         by_cases hlt : (x :: r).length < z.length
         · by_cases hvc : v ∈ c
           · simp only [if_pos hlt, if_pos hvc]
             exact ⟨_, rfl, goesOut_stop ht hd fun T => gs_cons_in hst hlt hvc⟩
           · simp only [if_pos hlt, if_neg hvc, Bool.not_true, Bool.not_false, cond_false]
             obtain ⟨o, ho, hout⟩ := goes_loop N hN h1 h2 hl m (i + 1) z (c ++ [v]) ms _ met (by omega) (by omega) hzl.2 (by omega) (hc.push hvc) hme hnd2
             exact ⟨o, ho, goesOut_step ht hd (fun T => gs_cons_new hst hlt hvc) hv hout⟩
         · simp only [if_neg hlt, Bool.not_true, Bool.not_false, cond_false]
           obtain ⟨o, ho, hout⟩ := goes_loop N hN h1 h2 hl m (i + 1) z c ms came met (by omega) (by omega) hzl.2 (by omega) hc hme hnd2
           exact ⟨o, ho, goesOut_step ht hd (fun T => gs_cons_go hst hlt) hv hout⟩
theorem goes_eq {N : Nat} (hN : Fu + 5 ≤ N) {n : Nat} (h1 : 1 ≤ n) (h2 : n ≤ 64) {l : List Int} (hl : l.length ≤ 1000) (hn : l.Nodup) {x : Int} {l' : List Int} (hx : l = x :: l') :
   ∃ b, m_u80 N ((n : Int), l) = some b ∧ (b = true ↔ (0 ≤ x ∧ x < n) ∧ TourI n l) := by
 obtain ⟨N, rfl⟩ : ∃ M, N = M + 1 := ⟨N - 1, by omega⟩
 have hx0 : l[0]? = some x := by rw [hx]; rfl
 have hnth : nthI l (0 : Int) = some x := nth_of (i := 0) hx0
 rw [m_u80_eq]
 simp only [hnth, ob]
 rw [in_eq (by omega), ob, cdn]
 by_cases c : 0 ≤ x ∧ x < n
 rotate_left
 · rw [if_neg (by omega)]
   exact ⟨false, rfl, by simp [c]⟩
 rw [if_pos ⟨by omega, c⟩]
 obtain ⟨u, rfl⟩ : ∃ u : Nat, x = u := ⟨x.toNat, by omega⟩
 have hun : u < n := by omega
 have hc0 : Cm [u] (mput (.i .i64) [] (u : Int) 1) := by
   have := Cm.push (c := []) (m := []) ⟨fun v => by simp [mget], rfl, fun v x h => by simp [mget] at h⟩ (v := u) (by simp)
   simpa using this
 obtain ⟨o, ho, hout⟩ := goes_loop N (by omega) h1 h2 hl N 0 [u] [u] [] _ [] (by rw [Fu_eq] at hN; omega) (by omega) (by simp) (by simp) hc0 ⟨fun v => by simp [mget], rfl⟩ (by simpa using hn)
 have hw : wayI [u] = [(u : Int)] := rfl
 rw [hw, show ((0 : Nat) : Int) = (0 : Int) from rfl] at ho
 rw [ho, ob]
 rcases hout with ⟨rfl, hno⟩ | ⟨T, z, c', came', met', hT, hg, rfl, hcm, hmm⟩
 · refine ⟨false, rfl, ?_⟩
   simp only [Bool.false_eq_true, false_iff, not_and]
   rintro _ ⟨T, hT, hA⟩
   rw [List.drop_zero] at hno
   have hTn : T ≠ [] := hA.ne
   have hhd : T.head? = some (u, u) := by
     rw [hx] at hT
     cases T with
     | nil => exact absurd rfl hTn
     | cons t T =>
       simp only [List.map_cons, List.cons.injEq, dk_of_vert hun, Option.some.injEq] at hT
       rw [← hT.1]; rfl
   obtain ⟨r, hr⟩ := hA.clo
   have hru : r = u := by
     cases T with
     | nil => exact absurd rfl hTn
     | cons t T =>
       have := run_head hr
       simp at hhd this
       rw [hhd] at this
       exact this
   subst hru
   have := ((acc_goes hA.nod).2 ⟨hA, hr⟩)
   exact hno T [r] ([r] ++ psh [r] T) hT ((gs_iff (by simp)).2 ⟨this.1, rfl, this.2.1⟩)
 · rw [List.drop_zero] at hT
   have hTn : T.Nodup := (tk_nodup hT).1 hn
   have hgi := (gs_iff (by simp)).1 hg
   have hlen : met'.length = (verts T).length := by simpa using hmm.len
   have hclen : came'.length = c'.length := hcm.len
   simp only [wayI_len]
   have hzne : ∃ y r, z = y :: r := by
     have h9 : T ≠ [] := fun e => by rw [hx, e] at hT; simp at hT
     obtain ⟨T', t, rfl⟩ : ∃ T' t, T = T' ++ [t] := by
       rcases List.eq_nil_or_concat T with e | ⟨a, b, e⟩
       · exact absurd e h9
       · exact ⟨a, b, by rw [e, List.concat_eq_append]⟩
     obtain ⟨r, hr⟩ := run_top hgi.1
     exact ⟨_, _, hr⟩
   obtain ⟨y, r, rfl⟩ := hzne
   rw [cd]
   by_cases hr0 : r = []
   rotate_left
   · have hrl : 0 < r.length := List.length_pos_iff.2 hr0
     rw [if_neg (by simp only [List.length_cons]; omega)]
     refine ⟨false, rfl, ?_⟩
     simp only [Bool.false_eq_true, false_iff, not_and]
     rintro _ ⟨S, hS, hA⟩
     obtain rfl := map_dk_uniq hT hS
     obtain ⟨r2, hr2⟩ := hA.clo
     have hru : r2 = u := by
       cases T with
       | nil => exact absurd rfl hA.ne
       | cons t T =>
         rw [hx] at hT
         simp only [List.map_cons, List.cons.injEq, dk_of_vert hun, Option.some.injEq] at hT
         have h3 := run_head hr2
         simp at h3
         rw [h3, ← hT.1]
     subst hru
     have := hr2.symm.trans hgi.1
     simp only [Option.some.injEq, List.cons.injEq] at this
     exact hr0 this.2.symm
   · subst hr0
     rw [if_pos (by simp)]
     have hyu : run [u] T = some [y] := hgi.1
     refine ⟨_, rfl, ?_⟩
     rw [decide_eq_true_eq, hlen, hclen, hgi.2.1]
     have hyu2 : y = u ∨ True := .inr trivial
     constructor
     · intro he
       refine ⟨c, T, hT, ?_⟩
       -- closed: the root stays below
       have hbot : ∀ (l : List Tk) (s z : List Nat), s ≠ [] → run s l = some z → z.getLast? = s.getLast? := fun l => by
         induction l with
         | nil => intro s z _ h; have : s = z := by simpa [run] using h
                  rw [this]
         | cons t l ih =>
           intro s z hs h
           obtain ⟨y, h3, h4⟩ := run_cons.1 h
           rw [ih y z (stp_len h3).2 h4]
           obtain ⟨r, h5, h6⟩ := stp_cases h3
           rcases h6 with ⟨_, rfl⟩ | ⟨_, r', hr, rfl⟩ | ⟨_, _, rfl⟩
           · rfl
           · rw [h5, hr, List.getLast?_cons_cons]
           · rw [h5, List.getLast?_cons_cons]
       have hb := hbot T [u] [y] (by simp) hyu
       simp at hb
       subst hb
       exact ((acc_goes hTn).1 ⟨hyu, by simpa using hgi.2.2, by simp at he; omega⟩).1
     · rintro ⟨_, S, hS, hA⟩
       obtain rfl := map_dk_uniq hT hS
       obtain ⟨r2, hr2⟩ := hA.clo
       have hru : r2 = u := by
         cases T with
         | nil => exact absurd rfl hA.ne
         | cons t T =>
           rw [hx] at hT
           simp only [List.map_cons, List.cons.injEq, dk_of_vert hun, Option.some.injEq] at hT
           have h3 := run_head hr2
           simp at h3
           rw [h3, ← hT.1]
       subst hru
       have := ((acc_goes hTn).2 ⟨hA, hr2⟩).2.2
       simp; omega
end Go.Proofs.Ytdahghkmejnlgaa.Tr
namespace Go.Proofs.Ytdahghkmejnlgaa.Tr
open Go Go.RowKit
theorem rin_eq {N : Nat} (hN : 1 ≤ N) (n v : Int) : m_u82 N (n, v) = some (decide ((1 ≤ n ∧ n ≤ 64) ∧ 0 ≤ v ∧ v < n)) := by
 obtain ⟨N, rfl⟩ : ∃ M, N = M + 1 := ⟨N - 1, by omega⟩
 rw [m_u82_eq]
 simp only [cd]
 by_cases c1 : 1 ≤ n
 · by_cases c2 : n ≤ 64
   · by_cases c3 : 0 ≤ v <;> simp [c1, c2, c3]
   · simp [c1, c2]
 · simp [c1]
theorem rtoken_eq {N : Nat} (hN : 2 ≤ N) {n : Nat} (h1 : 1 ≤ n) (h2 : n ≤ 64) (t : Int) : m_u45 N ((n : Int), t) = some (tokT n t) := by
 obtain ⟨N, rfl⟩ : ∃ M, N = M + 1 := ⟨N - 1, by omega⟩
 have hnn := nn64 h2
 have hsq : n * (n + 1) = n * n + n := by rw [Nat.mul_add, Nat.mul_one]
 have hw : IntKind.wrap .i64 ((n : Int) + (IntKind.wrap .i64 ((n : Int) * (n : Int)))) = ((n * (n + 1) : Nat) : Int) := by
   rw [show (n : Int) * (n : Int) = ((n * n : Nat) : Int) from (Int.natCast_mul n n).symm, w64 (x := ((n * n : Nat) : Int)) (by omega) (by omega), w64 (by omega) (by omega), hsq]
   omega
 rw [m_u45_eq, rin_eq (by omega), ob, hw]
 unfold tokT dk
 by_cases c0 : 0 ≤ t ∧ t < n
 · rw [decide_eq_true (show ((1 : Int) ≤ (n : Int) ∧ (n : Int) ≤ 64) ∧ 0 ≤ t ∧ t < (n : Int) by omega), if_pos c0]
   simp; omega
 rw [decide_eq_false (show ¬ (((1 : Int) ≤ (n : Int) ∧ (n : Int) ≤ 64) ∧ 0 ≤ t ∧ t < (n : Int)) by omega), if_neg c0]
 simp only [cond_false, cd]
 rw [if_neg (show ¬ (n : Int) < 1 by omega), if_neg (show ¬ (64 : Int) < (n : Int) by omega)]
 by_cases c3 : t < n
 · rw [if_pos c3, if_neg (by omega)]
 rw [if_neg c3]
 by_cases c2 : ((n * (n + 1) : Nat) : Int) ≤ t
 · rw [if_pos c2, if_neg (by omega)]
 rw [if_neg c2, if_pos (by omega)]
 obtain ⟨k, rfl⟩ : ∃ k : Nat, t = k := ⟨t.toNat, by omega⟩
 have hk : n ≤ k := by omega
 rw [w64 (x := (k : Int) - (n : Int)) (by omega) (by omega), show (k : Int) - (n : Int) = ((k - n : Nat) : Int) by omega]
 rw [quo_of (by omega), ob, rem_of (by omega), ob, tdiv_nat, tmod_nat, Int.toNat_natCast]
 have e1 : (k - n) / n = k / n - 1 := by
   rw [show k / n = (k - n) / n + 1 by rw [← Nat.add_div_right _ (by omega : 0 < n)]; congr 1; omega]
   rfl
 have e2 : (k - n) % n = k % n := (Nat.mod_eq_sub_mod hk).symm
 have h3 : k / n < n + 1 := Nat.div_lt_of_lt_mul (by omega)
 have h5 : k % n < n := Nat.mod_lt _ (by omega)
 rw [e1, e2, w64 (x := ((k / n - 1 : Nat) : Int)) (by omega) (by omega)]
 by_cases c4 : k / n - 1 = k % n
 · rw [if_pos (by omega), if_pos c4]
 · rw [if_neg (by omega), if_neg c4]
   simp only [c4, if_false]
theorem rarc_eq {N : Nat} (hN : 2 ≤ N) {n u v : Nat} (h2 : n ≤ 64) (hu : u < n) (hv : v < n) (huv : u ≠ v) : m_u77 N ((n : Int), (u : Int), (v : Int)) = some (ek n (u, v)) := by
 obtain ⟨N, rfl⟩ : ∃ M, N = M + 1 := ⟨N - 1, by omega⟩
 have hnn := nn64 h2
 have hle : n * (u + 1) ≤ n * (n + 1) := Nat.mul_le_mul_left n (by omega)
 have hsq : n * (u + 1) = n * u + n := by rw [Nat.mul_add, Nat.mul_one]
 rw [m_u77_eq, rin_eq (by omega), ob, rin_eq (by omega), decide_eq_true (show ((1 : Int) ≤ (n : Int) ∧ (n : Int) ≤ 64) ∧ 0 ≤ (u : Int) ∧ (u : Int) < (n : Int) by omega), decide_eq_true (show ((1 : Int) ≤ (n : Int) ∧ (n : Int) ≤ 64) ∧ 0 ≤ (v : Int) ∧ (v : Int) < (n : Int) by omega)]
 simp only [ob, Bool.not_true, cond_false, cd]
 rw [if_neg (by omega), show (u : Int) * (n : Int) = ((n * u : Nat) : Int) by rw [Nat.mul_comm]; exact (Int.natCast_mul u n).symm, w64 (x := ((n * u : Nat) : Int)) (by omega) (by omega), w64 (x := (n : Int) + ((n * u : Nat) : Int)) (by omega) (by omega), w64 (by omega) (by omega)]
 unfold ek
 simp only [huv, if_false]
 congr 1; omega
theorem rstands_eq {N : Nat} (hN : 3 ≤ N) {n : Nat} (h1 : 1 ≤ n) (h2 : n ≤ 64) (t : Int) (u : Nat) : ∃ b, m_u35 N ((n : Int), t, (u : Int)) = some b ∧ (b = true ↔ ∃ e, dk n t = some e ∧ e.2 = u) := by
 obtain ⟨N, rfl⟩ : ∃ M, N = M + 1 := ⟨N - 1, by omega⟩
 rw [m_u35_eq, rtoken_eq (by omega) h1 h2, ob]
 unfold tokT
 cases hd : dk n t with
 | none => exact ⟨false, rfl, by simp⟩
 | some e =>
   obtain ⟨x, y⟩ := e
   by_cases c : x = y
   · subst c
     simp only [if_true, Bool.not_false, cond_true, cond_false, cd]
     by_cases c2 : x = u
     · subst c2
       exact ⟨true, by simp, by simp⟩
     · exact ⟨false, by rw [if_neg (by omega)], by simp [c2]⟩
   · simp only [c, if_false, Bool.not_true, cond_true, cond_false]
     refine ⟨_, rfl, ?_⟩
     simp only [decide_eq_true_eq, Option.some.injEq, exists_eq_left']
     omega
def LeafR (n : Nat) (R : List Int) : Prop := 4 ≤ R.length ∧ ∃ u v p, u ≠ v ∧ u < n ∧ v < n ∧ R[0]? = some (ek n (u, v)) ∧ R[1]? = some (v : Int) ∧ R[2]? = some (ek n (v, u)) ∧ R[R.length - 1]? = some p ∧ ∃ e, dk n p = some e ∧ e.2 = u
theorem LeafR.form {n : Nat} {R : List Int} (h : LeafR n R) : ∃ u v p q, u ≠ v ∧ u < n ∧ v < n ∧ R = ek n (u, v) :: ek n (v, v) :: ek n (v, u) :: (q ++ [p]) ∧ ∃ e, dk n p = some e ∧ e.2 = u := by
 obtain ⟨hl, u, v, p, h1, h2, h3, r0, r1, r2, r3, h4⟩ := h
 match R, hl, r0, r1, r2, r3 with
 | a :: b :: c :: rest, hl, r0, r1, r2, r3 =>
   simp only [List.getElem?_cons_zero, List.getElem?_cons_succ, Option.some.injEq] at r0 r1 r2
   subst r0; subst r1; subst r2
   rcases List.eq_nil_or_concat rest with e | ⟨q, x, e⟩
   · subst e; simp at hl
   · rw [List.concat_eq_append] at e
     subst e
     have : (ek n (u, v) :: (v : Int) :: ek n (v, u) :: (q ++ [x]))[(ek n (u, v) :: (v : Int) :: ek n (v, u) :: (q ++ [x])).length - 1]? = some x := by
       rw [show (ek n (u, v) :: (v : Int) :: ek n (v, u) :: (q ++ [x])).length - 1 = q.length + 1 + 1 + 1 by simp]
       simp
     rw [this] at r3
     cases r3
     exact ⟨u, v, p, q, h1, h2, h3, by simp [ek], h4⟩
theorem TourI.rot {n : Nat} {a b : List Int} (h : TourI n (a ++ b)) : TourI n (b ++ a) := by
 obtain ⟨T, hT, hA⟩ := h
 rw [List.map_append] at hT
 obtain ⟨S1, S2, e, e1, e2⟩ := List.append_eq_map_iff.1 hT
 subst e
 exact ⟨S2 ++ S1, by rw [List.map_append, List.map_append, ← e1, ← e2], hA.rot⟩
theorem tour_turn {n : Nat} {l : List Int} {j : Nat} : TourI n (Proofs.Ytdahghkmejnlgaa.Tr.rot l j) ↔ TourI n l := by
 have e : l.take j ++ l.drop j = l := List.take_append_drop j l
 constructor
 · intro h
   have := TourI.rot h
   rwa [e] at this
 · intro h
   rw [← e] at h
   exact h.rot
theorem tour_leaf {n : Nat} {l : List Int} (hn : l.Nodup) {j : Nat} (hl : LeafR n (Proofs.Ytdahghkmejnlgaa.Tr.rot l j)) : TourI n ((Proofs.Ytdahghkmejnlgaa.Tr.rot l j).drop 3) ↔ TourI n l := by
 rw [← tour_turn (n := n) (l := l) (j := j)]
 have hnr : (Proofs.Ytdahghkmejnlgaa.Tr.rot l j).Nodup := rot_nodup.2 hn
 obtain ⟨u, v, p, q, huv, hu, hv, hR, e, he, heu⟩ := hl.form
 rw [hR] at hnr ⊢
 have d1 := dk_ek (e := (u, v)) hu hv
 have d2 := dk_ek (e := (v, v)) hv hv
 have d3 := dk_ek (e := (v, u)) hv hu
 constructor
 · rintro ⟨T, hT, hA⟩
   simp only [List.drop_succ_cons, List.drop_zero] at hT
   obtain ⟨Q, e', rfl⟩ : ∃ Q e', T = Q ++ [e'] := by
     rcases List.eq_nil_or_concat T with e0 | ⟨a, b, e0⟩
     · exact absurd e0 hA.ne
     · exact ⟨a, b, by rw [e0, List.concat_eq_append]⟩
   have hee : e' = e := by
     rw [List.map_append, List.map_append] at hT
     have := List.append_inj_right' hT (by simp)
     simp [he] at this
     exact this.symm
   subst hee
   have hm : (ek n (u, v) :: ek n (v, v) :: ek n (v, u) :: (q ++ [p])).map (dk n) = ((u, v) :: (v, v) :: (v, u) :: (Q ++ [e'])).map some := by
     simp only [List.map_cons, d1, d2, d3, hT]
   exact ⟨_, hm, leaf_back huv hA heu ((tk_nodup hm).1 hnr)⟩
 · rintro ⟨T, hT, hA⟩
   match T, hT, hA with
   | [], hT, hA => exact absurd rfl hA.ne
   | [a], hT, hA => simp at hT
   | [a, b], hT, hA => simp at hT
   | a :: b :: c :: Q, hT, hA =>
     simp only [List.map_cons, d1, d2, d3, List.cons.injEq, Option.some.injEq] at hT
     obtain ⟨rfl, rfl, rfl, hQ⟩ := hT
     refine ⟨Q, by simpa using hQ, leaf_away huv (fun e0 => ?_) hA⟩
     subst e0
     simp at hQ
theorem tour_has_leaf {n : Nat} {l : List Int} (h : TourI n l) (hl : 1 < l.length) : ∃ j, j < l.length ∧ LeafR n (Proofs.Ytdahghkmejnlgaa.Tr.rot l j) := by
 obtain ⟨T, hT, hA⟩ := h
 have hlen : l.length = T.length := by simpa using congrArg List.length hT
 obtain ⟨a, u, v, b, hab, huv, q, t, hba, htu⟩ := hA.leaf (by omega)
 subst hab
 rw [List.map_append] at hT
 obtain ⟨l1, l2, e, e1, e2⟩ := List.map_eq_append_iff.1 hT
 subst e
 obtain ⟨j, hj, hr⟩ : ∃ j, j < (l1 ++ l2).length ∧ Proofs.Ytdahghkmejnlgaa.Tr.rot (l1 ++ l2) j = l2 ++ l1 := by
   by_cases h0 : l2 = []
   · subst h0
     exact ⟨0, by omega, by simp [Proofs.Ytdahghkmejnlgaa.Tr.rot]⟩
   · have := List.length_pos_iff.2 h0
     exact ⟨l1.length, by simp; omega, by rw [rot_app]⟩
 refine ⟨j, hj, ?_⟩
 rw [hr]
 have hm : (l2 ++ l1).map (dk n) = ((u, v) :: (v, v) :: (v, u) :: (q ++ [t])).map some := by
   rw [List.map_append, e1, e2, ← List.map_append, hba]
 have hR := map_dk hm
 have hx : ∀ x ∈ (u, v) :: (v, v) :: (v, u) :: (q ++ [t]), dk n (ek n x) = some x ∧ x.1 < n ∧ x.2 < n := fun x hx => by
   have : some x ∈ (l2 ++ l1).map (dk n) := by rw [hm]; exact List.mem_map.2 ⟨x, hx, rfl⟩
   obtain ⟨y, hy, hy2⟩ := List.mem_map.1 this
   have h3 := dk_some hy2
   exact ⟨by rw [h3.1]; exact hy2, h3.2⟩
 have huv2 := hx (u, v) (by simp)
 have ht := hx t (by simp)
 rw [hR]
 refine ⟨by simp, u, v, ek n t, huv, huv2.2.1, huv2.2.2, rfl, by simp [ek], rfl, ?_, t, ht.1, htu⟩
 rw [List.length_map, show ((u, v) :: (v, v) :: (v, u) :: (q ++ [t])).length - 1 = q.length + 1 + 1 + 1 by simp]
 simp
end Go.Proofs.Ytdahghkmejnlgaa.Tr
namespace Go.Proofs.Ytdahghkmejnlgaa.Tr
open Go Go.RowKit
theorem rem_at {a b : Nat} (hb : 0 < b) (h : a ≤ 100000) (hb2 : b ≤ 100000) {x : Int} (hx : x = (a : Int)) : remI (IntKind.wrap .i64 x) (b : Int) = some ((a % b : Nat) : Int) := by
 subst hx
 rw [w64 (by omega) (by omega), rem_of (by omega), tmod_nat]
theorem rot_nth {l : List Int} {i k : Nat} (hi : i < l.length) (hk : k < l.length) {x : Int} (hx : (Proofs.Ytdahghkmejnlgaa.Tr.rot l i)[k]? = some x) : nthI l (((i + k) % l.length : Nat) : Int) = some x := by
 rw [rot_get l (by omega) hk] at hx
 exact nth_of hx
theorem tree3_loop (N : Nat) (n : Int) {l : List Int} (hl : l.length ≤ 1000) {i : Nat} (hi : i < l.length) : ∀ (m k : Nat) (acc : List Int), l.length - k < m → k ≤ l.length → acc.length ≤ 1000 + k →
   l_u61_3 N m (n, (i : Int), (k : Int), l, acc) = some (n, (i : Int), acc ++ (Proofs.Ytdahghkmejnlgaa.Tr.rot l i).drop k)
 | 0, k, acc, h, _, _ => absurd h (by omega)
 | m + 1, k, acc, hm, hk, ha => by
   rw [l_u61_3_s, cd]
   have hrl := rot_len l i
   by_cases q : k < l.length
   · rw [if_pos (by omega), rem_at (a := i + k) (by omega) (by omega) (by omega) (by omega), ob]
     obtain ⟨x, hx⟩ := get_at (xs := Proofs.Ytdahghkmejnlgaa.Tr.rot l i) (i := k) (by omega)
     simp only [rot_nth hi q hx, ob]
     rw [app_of (by omega) (by simp; omega), ob, w64n (by omega), tree3_loop N n hl hi m (k + 1) _ (by omega) (by omega) (by simp; omega), drop_at hx]
     simp
   · rw [if_neg (by omega), List.drop_eq_nil_of_le (by omega)]
     simp
theorem tree2_done (N m : Nat) (n i : Int) (l : List Int) : l_u61_2 N (m + 1) (n, true, i, l) = some (n, true, l) := by
 rw [l_u61_2_s, cd]
 split <;> rfl
theorem tree2_loop (N : Nat) (hN : Fu + 5 ≤ N) {n : Nat} (h1 : 1 ≤ n) (h2 : n ≤ 64) {l : List Int} (hl : l.length ≤ 1000) : ∀ (m i : Nat), l.length - i + 1 < m → i ≤ l.length →
   ∃ o, l_u61_2 N m ((n : Int), false, (i : Int), l) = some o ∧ ((o = ((n : Int), false, l) ∧ ∀ j, i ≤ j → j < l.length → ¬ LeafR n (Proofs.Ytdahghkmejnlgaa.Tr.rot l j)) ∨
     ∃ j, j < l.length ∧ LeafR n (Proofs.Ytdahghkmejnlgaa.Tr.rot l j) ∧ o = ((n : Int), true, (Proofs.Ytdahghkmejnlgaa.Tr.rot l j).drop 3))
 | 0, i, h, _ => absurd h (by omega)
 | m + 1, i, hm, hi => by
   rw [l_u61_2_s, cd]
   by_cases q : i < l.length
   rotate_left
   · rw [if_neg (by omega)]
     exact ⟨_, rfl, .inl ⟨rfl, fun j h3 h4 => by omega⟩⟩
   rw [if_pos (by omega)]
   have hrl := rot_len l i
   have hpos : 0 < l.length := by omega
   obtain ⟨a, ha⟩ := get_at (xs := l) (i := i) q
   have ha0 : (Proofs.Ytdahghkmejnlgaa.Tr.rot l i)[0]? = some a := by rw [rot_get l (by omega) hpos, Nat.add_zero, Nat.mod_eq_of_lt q]; exact ha
   obtain ⟨b, hb⟩ := get_at (xs := l) (i := (i + 1) % l.length) (Nat.mod_lt _ hpos)
   obtain ⟨c, hc⟩ := get_at (xs := l) (i := (i + 2) % l.length) (Nat.mod_lt _ hpos)
   simp only [Bool.not_false, cond_true, nth_of ha, ob]
   rw [rem_at (a := i + 1) hpos (by omega) (by omega) (by omega), ob]
   simp only [nth_of hb, ob]
   rw [rem_at (a := i + 2) hpos (by omega) (by omega) (by omega), ob]
   simp only [nth_of hc, ob]
   rw [rtoken_eq (by omega) h1 h2, ob, w64n (by omega)]
   -- the next place
   have next : ¬ LeafR n (Proofs.Ytdahghkmejnlgaa.Tr.rot l i) → ∃ o, l_u61_2 N m ((n : Int), false, ((i + 1 : Nat) : Int), l) = some o ∧ ((o = ((n : Int), false, l) ∧ ∀ j, i ≤ j → j < l.length → ¬ LeafR n (Proofs.Ytdahghkmejnlgaa.Tr.rot l j)) ∨
     ∃ j, j < l.length ∧ LeafR n (Proofs.Ytdahghkmejnlgaa.Tr.rot l j) ∧ o = ((n : Int), true, (Proofs.Ytdahghkmejnlgaa.Tr.rot l j).drop 3)) := fun hno => by
     obtain ⟨o, ho, h3⟩ := tree2_loop N hN h1 h2 hl m (i + 1) (by omega) (by omega)
     refine ⟨o, ho, ?_⟩
     rcases h3 with ⟨rfl, h3⟩ | h3
     · refine .inl ⟨rfl, fun j h4 h5 => ?_⟩
       by_cases e : j = i
       · subst e; exact hno
       · exact h3 j (by omega) h5
     · exact .inr h3
   by_cases c4 : 4 ≤ l.length
   rotate_left
   · rw [cd, if_neg (by omega)]
     exact next fun h => c4 (by have := h.1; omega)
   rw [cd, if_pos (by omega)]
   have hb1 : (Proofs.Ytdahghkmejnlgaa.Tr.rot l i)[1]? = some b := by rw [rot_get l (by omega) (by omega)]; exact hb
   have hc1 : (Proofs.Ytdahghkmejnlgaa.Tr.rot l i)[2]? = some c := by rw [rot_get l (by omega) (by omega)]; exact hc
   -- what a leaf would say
   have leaf_a : LeafR n (Proofs.Ytdahghkmejnlgaa.Tr.rot l i) → ∃ u v, u ≠ v ∧ u < n ∧ v < n ∧ a = ek n (u, v) ∧ b = (v : Int) ∧ c = ek n (v, u) ∧ ∃ p e, (Proofs.Ytdahghkmejnlgaa.Tr.rot l i)[(Proofs.Ytdahghkmejnlgaa.Tr.rot l i).length - 1]? = some p ∧ dk n p = some e ∧ e.2 = u := by
     rintro ⟨_, u, v, p, g1, g2, g3, g4, g5, g6, g7, e, g8, g9⟩
     rw [ha0] at g4
     rw [hb1] at g5
     rw [hc1] at g6
     exact ⟨u, v, g1, g2, g3, Option.some.inj g4, Option.some.inj g5, Option.some.inj g6, p, e, g7, g8, g9⟩
   have htok : ∀ u v, u ≠ v → u < n → v < n → a = ek n (u, v) → dk n a = some (u, v) := fun u v _ g2 g3 g4 => by rw [g4]; exact dk_ek g2 g3
   cases hd : dk n a with
   | none =>
     have htt : tokT n a = (0, 0, false, false) := by unfold tokT; rw [hd]
     rw [htt]
     exact next fun h => by
       obtain ⟨u, v, g1, g2, g3, g4, _⟩ := leaf_a h
       rw [htok u v g1 g2 g3 g4] at hd
       cases hd
   | some e =>
     obtain ⟨u, v⟩ := e
     have hbd := dk_some hd
     by_cases huv : u = v
     · subst huv
       have htt : tokT n a = ((u : Int), 0, false, true) := by unfold tokT; rw [hd]; simp
       rw [htt]
       exact next fun h => by
         obtain ⟨u', v', g1, g2, g3, g4, _⟩ := leaf_a h
         rw [htok u' v' g1 g2 g3 g4] at hd
         cases hd
         exact g1 rfl
     · have htt : tokT n a = ((u : Int), (v : Int), true, true) := by unfold tokT; rw [hd]; simp [huv]
       rw [htt]
       simp only [cond_true, cd]
       have same : LeafR n (Proofs.Ytdahghkmejnlgaa.Tr.rot l i) → b = (v : Int) ∧ c = ek n (v, u) ∧ ∃ p e, (Proofs.Ytdahghkmejnlgaa.Tr.rot l i)[(Proofs.Ytdahghkmejnlgaa.Tr.rot l i).length - 1]? = some p ∧ dk n p = some e ∧ e.2 = u := fun h => by
         obtain ⟨u', v', g1, g2, g3, g4, g5, g6, g7⟩ := leaf_a h
         rw [htok u' v' g1 g2 g3 g4] at hd
         cases hd
         exact ⟨g5, g6, g7⟩
       by_cases cb : b = (v : Int)
       rotate_left
       · rw [if_neg cb]
         exact next fun h => cb (same h).1
       rw [if_pos cb, rarc_eq (by omega) h2 hbd.2.2 hbd.2.1 (fun e => huv e.symm), ob]
       by_cases cc : c = ek n (v, u)
       rotate_left
       · rw [if_neg cc]
         exact next fun h => cc (same h).2.1
       rw [if_pos cc]
       have hw : IntKind.wrap .i64 ((IntKind.wrap .i64 ((i : Int) + (((List.length l) : Nat) : Int))) - (1 : Int)) = IntKind.wrap .i64 ((i + (l.length - 1) : Nat) : Int) := by
         rw [w64 (x := (i : Int) + (((List.length l) : Nat) : Int)) (by omega) (by omega)]
         congr 1; omega
       rw [hw, rem_at (a := i + (l.length - 1)) hpos (by omega) (by omega) rfl, ob]
       obtain ⟨p, hp⟩ := get_at (xs := Proofs.Ytdahghkmejnlgaa.Tr.rot l i) (i := l.length - 1) (by omega)
       simp only [rot_nth q (show l.length - 1 < l.length by omega) hp, ob]
       obtain ⟨s, hs, hs2⟩ := rstands_eq (N := N) (by omega) h1 h2 p u
       rw [hs, ob]
       have hp2 : (Proofs.Ytdahghkmejnlgaa.Tr.rot l i)[(Proofs.Ytdahghkmejnlgaa.Tr.rot l i).length - 1]? = some p := by rw [hrl]; exact hp
       cases s with
       | false =>
         exact next fun h => by
           obtain ⟨_, _, p', e, g1, g2, g3⟩ := same h
           rw [hp2] at g1
           cases g1
           have := hs2.2 ⟨e, g2, g3⟩
           cases this
       | true =>
         obtain ⟨e, he, heu⟩ := hs2.1 rfl
         have hleaf : LeafR n (Proofs.Ytdahghkmejnlgaa.Tr.rot l i) := ⟨by omega, u, v, p, huv, hbd.2.1, hbd.2.2, by rw [ha0, hbd.1], by rw [hb1, cb], by rw [hc1, cc], hp2, e, he, heu⟩
         simp only [cond_true]
         have h3 := tree3_loop N (n : Int) hl q N 3 [] (by rw [Fu_eq] at hN; omega) (by omega) (by simp)
         rw [show ((3 : Nat) : Int) = (3 : Int) from rfl] at h3
         rw [h3, ob]
         simp only [List.nil_append]
         obtain ⟨m', rfl⟩ : ∃ m', m = m' + 1 := ⟨m - 1, by omega⟩
         rw [tree2_done]
         exact ⟨_, rfl, .inr ⟨i, q, hleaf, rfl⟩⟩
theorem tree1_loop (N : Nat) (hN : Fu + 5 ≤ N) {n : Nat} (h1 : 1 ≤ n) (h2 : n ≤ 64) : ∀ (m : Nat) (l : List Int), l.length < m → l.length ≤ 1000 → l.Nodup →
   ∃ o, l_u61_1 N m ((n : Int), l) = some o ∧ ((o = .inr false ∧ ¬ TourI n l) ∨ ∃ r, o = .inl ((n : Int), r) ∧ r.length ≤ 1 ∧ (TourI n r ↔ TourI n l))
 | 0, l, h, _, _ => absurd h (by omega)
 | m + 1, l, hm, hl, hn => by
   rw [l_u61_1_s, cd]
   by_cases q : 1 < l.length
   rotate_left
   · rw [if_neg (by omega)]
     exact ⟨_, rfl, .inr ⟨l, rfl, by omega, Iff.rfl⟩⟩
   rw [if_pos (by omega)]
   obtain ⟨o, ho, h3⟩ := tree2_loop N hN h1 h2 hl N 0 (by rw [Fu_eq] at hN; omega) (by omega)
   rw [show ((0 : Nat) : Int) = (0 : Int) from rfl] at ho
   rw [ho, ob]
   rcases h3 with ⟨rfl, h3⟩ | ⟨j, hj, hleaf, rfl⟩
   · refine ⟨_, rfl, .inl ⟨rfl, fun ht => ?_⟩⟩
     obtain ⟨j, hj, hlf⟩ := tour_has_leaf ht q
     exact h3 j (by omega) hj hlf
   · simp only [Bool.not_true, cond_false]
     have hlen : ((Proofs.Ytdahghkmejnlgaa.Tr.rot l j).drop 3).length = l.length - 3 := by rw [List.length_drop, rot_len]
     obtain ⟨o, ho, h4⟩ := tree1_loop N hN h1 h2 m ((Proofs.Ytdahghkmejnlgaa.Tr.rot l j).drop 3) (by omega) (by omega) ((rot_nodup.2 hn).sublist (List.drop_sublist _ _))
     refine ⟨o, ho, ?_⟩
     rw [tour_leaf hn hleaf] at h4
     exact h4
theorem tree_eq {N : Nat} (hN : Fu + 6 ≤ N) {n : Nat} (h1 : 1 ≤ n) (h2 : n ≤ 64) {l : List Int} (hl : l.length ≤ 1000) (hn : l.Nodup) : ∃ b, m_u61 N ((n : Int), l) = some b ∧ (b = true ↔ TourI n l) := by
 obtain ⟨N, rfl⟩ : ∃ M, N = M + 1 := ⟨N - 1, by omega⟩
 rw [m_u61_eq, app_of (by omega) (by simp; omega), ob, List.nil_append]
 obtain ⟨o, ho, h3⟩ := tree1_loop N (by omega) h1 h2 N l (by rw [Fu_eq] at hN; omega) hl hn
 rw [ho, ob]
 rcases h3 with ⟨rfl, h3⟩ | ⟨r, rfl, hr, h3⟩
 · exact ⟨false, rfl, by simp [h3]⟩
 · simp only [cd]
   rw [← h3]
   match r, hr with
   | [], _ =>
     refine ⟨false, by simp, ?_⟩
     simp only [Bool.false_eq_true, false_iff]
     rintro ⟨T, hT, hA⟩
     cases T with
     | nil => exact hA.ne rfl
     | cons t T => simp at hT
   | [t], _ =>
     have hx : nthI [t] (0 : Int) = some t := nth_of (i := 0) rfl
     rw [if_pos (by simp)]
     simp only [hx, ob]
     rw [rin_eq (by omega), ob]
     refine ⟨_, rfl, ?_⟩
     rw [decide_eq_true_eq]
     constructor
     · rintro ⟨_, h0, h4⟩
       obtain ⟨u, rfl⟩ : ∃ u : Nat, t = u := ⟨t.toNat, by omega⟩
       refine ⟨[(u, u)], by simp [dk_of_vert (show u < n by omega)], by simp, ⟨u, by simp [Clo, run, stp]⟩, by simp, by simp [arcN, verts]⟩
     · rintro ⟨T, hT, hA⟩
       match T, hT, hA with
       | [], hT, hA => exact absurd rfl hA.ne
       | [e], hT, hA =>
         simp only [List.map_cons, List.map_nil, List.cons.injEq, and_true] at hT
         have := hA.own e (by simp)
         simp only [List.mem_singleton] at this
         rw [← this] at hT
         have := dk_vert hT
         omega
       | e :: f :: T, hT, hA => simp at hT
   | a :: b :: r, hr => simp at hr
end Go.Proofs.Ytdahghkmejnlgaa.Tr
namespace Go.Proofs.Ytdahghkmejnlgaa.Tr
open Go Go.RowKit
def hd0 (r : List Int) : Int := r.headD 0
def okRg (n : Nat) (last : Int) (r : List Int) : Prop := r ≠ [] ∧ last < hd0 r ∧ RingR r ∧ minV r = hd0 r ∧ TourI n r
def okRs (n : Nat) : Int → List (List Int) → Prop
 | _, [] => True
 | last, r :: rs => okRg n last r ∧ okRs n (hd0 r) rs
def vt (n : Nat) (r : List Int) : List Int := r.filter fun t => decide (t < (n : Int))
def vts (n : Nat) (rs : List (List Int)) : List Int := rs.flatMap (vt n)
structure RightF (n : Nat) (rs : List (List Int)) : Prop where
 lo : 1 ≤ n
 hi : n ≤ 64
 rg : okRs n (-1) rs
 nd : (vts n rs).Nodup
 all : ∀ v : Nat, v < n → (v : Int) ∈ vts n rs
theorem hd0_get {r : List Int} (h : r ≠ []) : r[0]? = some (hd0 r) := by
 cases r with
 | nil => exact absurd rfl h
 | cons x r => rfl
theorem sub_len {α : Type} [BEq α] [LawfulBEq α] : ∀ {A B : List α}, A.Nodup → (∀ x ∈ A, x ∈ B) → A.length ≤ B.length
 | [], B, _, _ => by simp
 | a :: A, B, hn, hs => by
   have ha : a ∈ B := hs a (by simp)
   have hp := List.perm_cons_erase ha
   have hn2 := List.nodup_cons.1 hn
   have hlen := hp.length_eq
   have ih : A.length ≤ (B.erase a).length := sub_len hn2.2 fun x hx => by
     have := hp.mem_iff.1 (hs x (by simp [hx]))
     rcases List.mem_cons.1 this with e | e
     · exact absurd (e ▸ hx) hn2.1
     · exact e
   simp at hlen ⊢; omega
theorem okRs_mem {n : Nat} : ∀ {rs : List (List Int)} {last : Int}, okRs n last rs → ∀ r ∈ rs, ∃ l, okRg n l r
 | [], _, _, r, hr => by cases hr
 | x :: rs, last, h, r, hr => by
   rcases List.mem_cons.1 hr with rfl | hr
   · exact ⟨_, h.1⟩
   · exact okRs_mem h.2 r hr
theorem vt_in {n : Nat} {r : List Int} (h : RingR r) {x : Int} (hx : x ∈ vt n r) : x ∈ r ∧ 0 ≤ x ∧ x < n := by
 unfold vt at hx
 simp only [List.mem_filter, decide_eq_true_eq] at hx
 exact ⟨hx.1, (h.2.1 x hx.1).1, hx.2⟩
theorem vts_in {n : Nat} {rs : List (List Int)} {last : Int} (h : okRs n last rs) {x : Int} (hx : x ∈ vts n rs) : ∃ r ∈ rs, x ∈ r ∧ 0 ≤ x ∧ x < n := by
 obtain ⟨r, hr, hx⟩ := List.mem_flatMap.1 hx
 obtain ⟨l, hl⟩ := okRs_mem h r hr
 exact ⟨r, hr, vt_in hl.2.2.1 hx⟩
theorem tour_vert {n : Nat} {r : List Int} (h : TourI n r) : vt n r ≠ [] := by
 obtain ⟨T, hT, hA⟩ := h
 cases T with
 | nil => exact absurd rfl hA.ne
 | cons t T =>
   have := hA.own t (by simp)
   have h2 : some (t.1, t.1) ∈ r.map (dk n) := by rw [hT]; exact List.mem_map.2 ⟨_, this, rfl⟩
   obtain ⟨y, hy, hy2⟩ := List.mem_map.1 h2
   have h3 := dk_vert hy2
   refine List.ne_nil_of_mem (a := y) ?_
   unfold vt
   simp only [List.mem_filter, decide_eq_true_eq]
   exact ⟨hy, by omega⟩
theorem vts_len {n : Nat} : ∀ {rs : List (List Int)} {last : Int}, okRs n last rs → rs.length ≤ (vts n rs).length
 | [], _, _ => by simp
 | r :: rs, last, h => by
   have := vts_len h.2
   have h2 := List.length_pos_iff.2 (tour_vert h.1.2.2.2.2)
   unfold vts at this ⊢
   rw [List.flatMap_cons, List.length_append, List.length_cons]
   omega
theorem vts_le {n : Nat} {rs : List (List Int)} {last : Int} (h : okRs n last rs) (hn : (vts n rs).Nodup) : (vts n rs).length ≤ n := by
 have := sub_len (B := (List.range n).map fun v : Nat => (v : Int)) hn fun x hx => by
   obtain ⟨r, _, _, h0, h1⟩ := vts_in h hx
   exact List.mem_map.2 ⟨x.toNat, List.mem_range.2 (by omega), by omega⟩
 simpa using this
theorem range_nodup (n : Nat) : ((List.range n).map fun v : Nat => (v : Int)).Nodup := by
 refine List.Pairwise.map _ ?_ List.nodup_range
 intro a b h e
 exact h (by omega)
theorem vts_all {n : Nat} {rs : List (List Int)} {last : Int} (h : okRs n last rs) (hn : (vts n rs).Nodup) : (∀ v : Nat, v < n → (v : Int) ∈ vts n rs) ↔ (vts n rs).length = n := by
 have hle := vts_le h hn
 constructor
 · intro ha
   have := sub_len (A := (List.range n).map fun v : Nat => (v : Int)) (B := vts n rs) (range_nodup n) fun x hx => by
     obtain ⟨v, hv, rfl⟩ := List.mem_map.1 hx
     exact ha v (List.mem_range.1 hv)
   simp at this
   omega
 · intro hl v hv
   have hp := perm_of_len (B := (List.range n).map fun v : Nat => (v : Int)) hn (fun x hx => by
     obtain ⟨r, _, _, h0, h1⟩ := vts_in h hx
     exact List.mem_map.2 ⟨x.toNat, List.mem_range.2 (by omega), by omega⟩) (by simp [hl])
   exact hp.mem_iff.1 (List.mem_map.2 ⟨v, List.mem_range.2 hv, rfl⟩)
def Mv (n : Nat) (seen : List Int) (met : List (Int × Int)) : Prop := ∀ v : Int, v < n → (mget (.i .i64) met v).getD 0 = if v ∈ seen then 1 else 0
theorem Mv.vert {n : Nat} {seen : List Int} {met : List (Int × Int)} (h : Mv n seen met) {t : Int} (ht : t < n) (hs : t ∉ seen) : Mv n (seen ++ [t]) (mput (.i .i64) met t (IntKind.wrap .i64 ((mget (.i .i64) met t).getD 0 + 1))) := fun v hv => by
 have h0 := h t ht
 rw [if_neg hs] at h0
 rw [get_put, h0]
 by_cases e : t = v
 · subst e
   rw [if_pos rfl, if_pos (by simp)]; rfl
 · rw [if_neg e, h v hv]
   have : v ∈ seen ++ [t] ↔ v ∈ seen := by simp only [List.mem_append, List.mem_singleton]; exact ⟨fun h => h.resolve_right fun e2 => e e2.symm, .inl⟩
   simp only [this]
theorem Mv.arc {n : Nat} {seen : List Int} {met : List (Int × Int)} (h : Mv n seen met) {t : Int} (ht : ¬ t < n) (x : Int) : Mv n seen (mput (.i .i64) met t x) := fun v hv => by
 rw [get_put, if_neg (by omega)]
 exact h v hv
theorem vt_cons (n : Nat) (t : Int) (r : List Int) : vt n (t :: r) = if t < (n : Int) then t :: vt n r else vt n r := by
 unfold vt
 by_cases c : t < (n : Int) <;> simp [List.filter_cons, c]
theorem right2_loop (N : Nat) {n : Nat} {r : List Int} (hr : r.length ≤ 1000) (last a b : Int) (rs rs2 : List (List Int)) : ∀ (m k : Nat) (seen : List Int) (met : List (Int × Int)), r.length - k < m → k ≤ r.length → seen.Nodup → Mv n seen met →
   ∃ o, l_u67_2 N m (last, rs, a, b, r, (r.length : Int), (k : Int), (n : Int), rs2, met) = some o ∧ ((o = .inr false ∧ ¬ (seen ++ vt n (r.drop k)).Nodup) ∨
     ∃ met', o = .inl (last, rs, a, b, (n : Int), rs2, met') ∧ (seen ++ vt n (r.drop k)).Nodup ∧ Mv n (seen ++ vt n (r.drop k)) met')
 | 0, k, seen, met, h, _, _, _ => absurd h (by omega)
 | m + 1, k, seen, met, hm, hk, hs, hme => by
   rw [l_u67_2_s, cd]
   by_cases q : k < r.length
   rotate_left
   · rw [if_neg (by omega), List.drop_eq_nil_of_le (by omega)]
     exact ⟨_, rfl, .inr ⟨met, rfl, by simpa [vt] using hs, by simpa [vt] using hme⟩⟩
   rw [if_pos (by omega)]
   obtain ⟨t, ht⟩ := get_at (xs := r) (i := k) q
   rw [nth_of ht, ob, w64n (by omega), cd, drop_at ht, vt_cons]
   by_cases c : t < (n : Int)
   · rw [if_pos c, if_pos c, hme t c, cd]
     by_cases hin : t ∈ seen
     · simp only [if_pos hin, if_pos (show (0 : Int) < 1 by decide)]
       exact ⟨_, rfl, .inl ⟨rfl, fun h => (List.nodup_append.1 h).2.2 t hin t (by simp) rfl⟩⟩
     · simp only [if_neg hin, if_neg (show ¬ (0 : Int) < 0 by decide)]
       have hmv := hme.vert c hin
       rw [hme t c, if_neg hin] at hmv
       obtain ⟨o, ho, h⟩ := right2_loop N hr last a b rs rs2 m (k + 1) (seen ++ [t]) _ (by omega) (by omega) (List.nodup_append.2 ⟨hs, by simp, fun x hx y hy e => hin (by simp at hy; rw [← hy, ← e]; exact hx)⟩) hmv
       refine ⟨o, ho, ?_⟩
       rw [List.append_assoc] at h
       exact h
   · rw [if_neg c, if_neg c]
     exact right2_loop N hr last a b rs rs2 m (k + 1) seen _ (by omega) (by omega) hs (hme.arc c _)
theorem min_hd {r : List Int} (h : r ≠ []) (hm : minV r = hd0 r) : ∀ x ∈ r, hd0 r ≤ x := fun x hx => by
 rw [← hm]; exact (minV_ok h).2 x hx
theorem right1_loop (N : Nat) (hN : Fu + 6 ≤ N) {n : Nat} (h1 : 1 ≤ n) (h2 : n ≤ 64) {rs : List (List Int)} (hl : rs.length ≤ 9223372036854775807) (hls : ∀ r ∈ rs, r.length ≤ 9223372036854775807) : ∀ (m i : Nat) (last : Int) (seen : List Int) (met : List (Int × Int)), rs.length - i < m → i ≤ rs.length → seen.Nodup → Mv n seen met →
   ∃ o, l_u67_1 N m (last, rs, (rs.length : Int), (i : Int), (n : Int), rs, met) = some o ∧ ((o = .inr false ∧ ¬ (okRs n last (rs.drop i) ∧ (seen ++ vts n (rs.drop i)).Nodup)) ∨
     ∃ met', o = .inl ((n : Int), rs, met') ∧ okRs n last (rs.drop i) ∧ (seen ++ vts n (rs.drop i)).Nodup ∧ Mv n (seen ++ vts n (rs.drop i)) met')
 | 0, i, last, seen, met, h, _, _, _ => absurd h (by omega)
 | m + 1, i, last, seen, met, hm, hi, hs, hme => by
   rw [l_u67_1_s, cd]
   by_cases q : i < rs.length
   rotate_left
   · rw [if_neg (by omega), List.drop_eq_nil_of_le (by omega)]
     exact ⟨_, rfl, .inr ⟨met, rfl, trivial, by simpa [vts] using hs, by simpa [vts] using hme⟩⟩
   rw [if_pos (by omega)]
   obtain ⟨r, hr⟩ := get_at (xs := rs) (i := i) q
   have hrl := hls r (List.mem_of_getElem? hr)
   rw [nth_of hr, ob, drop_at hr, cd]
   have bad : ¬ okRg n last r → ∃ o, (some (.inr false) : Option ((Int × List (List Int) × List (Int × Int)) ⊕ Bool)) = some o ∧ ((o = .inr false ∧ ¬ (okRs n last (r :: rs.drop (i + 1)) ∧ (seen ++ vts n (r :: rs.drop (i + 1))).Nodup)) ∨
     ∃ met', o = .inl ((n : Int), rs, met') ∧ okRs n last (r :: rs.drop (i + 1)) ∧ (seen ++ vts n (r :: rs.drop (i + 1))).Nodup ∧ Mv n (seen ++ vts n (r :: rs.drop (i + 1))) met') := fun h => ⟨_, rfl, .inl ⟨rfl, fun h3 => h h3.1.1⟩⟩
   by_cases c0 : r = []
   · subst c0
     rw [if_pos (show (((([] : List Int).length) : Nat) : Int) = 0 from rfl)]
     exact bad fun h => h.1 rfl
   have hlen := List.length_pos_iff.2 c0
   rw [if_neg (by omega)]
   have hx : nthI r (0 : Int) = some (hd0 r) := nth_of (i := 0) (hd0_get c0)
   simp only [hx, ob, cd, cdn]
   by_cases c1 : hd0 r ≤ last
   · rw [if_pos c1]
     exact bad fun h => by have := h.2.1; omega
   rw [if_neg c1, ring_eq N (by omega) r (by omega), ob]
   by_cases c2 : RingR r
   rotate_left
   · rw [decide_eq_false c2]
     exact bad fun h => c2 h.2.2.1
   rw [decide_eq_true c2]
   simp only [Bool.not_true, cond_false]
   rw [min_eq N (by omega) r c2.1 c0, ob]
   by_cases c3 : minV r = hd0 r
   rotate_left
   · rw [if_neg c3]
     exact bad fun h => c3 h.2.2.2.1
   rw [if_pos c3]
   obtain ⟨x, r', hxr⟩ : ∃ x r', r = x :: r' := by
     cases r with
     | nil => exact absurd rfl c0
     | cons x r' => exact ⟨x, r', rfl⟩
   have hxe : hd0 r = x := by rw [hxr]; rfl
   obtain ⟨g, hg, hg2⟩ := goes_eq (N := N) (by omega) h1 h2 c2.1 c2.2.2 hxr
   rw [hg, ob]
   have hg3 : g = true ↔ TourI n r := by
     rw [hg2]
     constructor
     · exact fun h => h.2
     · intro h
       refine ⟨?_, h⟩
       obtain ⟨y, hy⟩ := List.exists_mem_of_ne_nil _ (tour_vert h)
       have h3 := vt_in c2 hy
       have h4 := min_hd c0 c3 y h3.1
       have h5 := (c2.2.1 x (by rw [hxr]; simp)).1
       omega
   cases g with
   | false =>
     exact bad fun h => by
       have := hg3.2 h.2.2.2.2
       cases this
   | true =>
     have hok : ¬ (hd0 r ≤ last) → okRg n last r := fun h => ⟨c0, by omega, c2, c3, hg3.1 rfl⟩
     simp only [Bool.not_true, cond_false]
     obtain ⟨o, ho, h3⟩ := right2_loop N (n := n) c2.1 (hd0 r) ((rs.length : Nat) : Int) (i : Int) rs rs N 0 seen met (by rw [Fu_eq] at hN; have := c2.1; omega) (by omega) hs hme
     rw [show ((0 : Nat) : Int) = (0 : Int) from rfl] at ho
     rw [ho, ob]
     rw [List.drop_zero] at h3
     rcases h3 with ⟨rfl, h3⟩ | ⟨met', rfl, h3, h4⟩
     · refine ⟨_, rfl, .inl ⟨rfl, fun h => h3 ?_⟩⟩
       have := h.2
       unfold vts at this
       rw [List.flatMap_cons, ← List.append_assoc] at this
       exact (List.nodup_append.1 this).1
     · simp only
       rw [w64n (by omega)]
       obtain ⟨o, ho, h5⟩ := right1_loop N hN h1 h2 hl hls m (i + 1) (hd0 r) (seen ++ vt n r) met' (by omega) (by omega) h3 h4
       refine ⟨o, ho, ?_⟩
       have e1 : seen ++ vts n (r :: rs.drop (i + 1)) = seen ++ vt n r ++ vts n (rs.drop (i + 1)) := by
         unfold vts
         rw [List.flatMap_cons, List.append_assoc]
       rw [e1]
       rcases h5 with ⟨rfl, h5⟩ | ⟨met2, rfl, h5, h6, h7⟩
       · exact .inl ⟨rfl, fun h => h5 ⟨h.1.2, h.2⟩⟩
       · exact .inr ⟨met2, rfl, ⟨hok c1, h5⟩, h6, h7⟩
theorem right3_loop (N : Nat) {n : Nat} (h2 : n ≤ 64) {seen : List Int} {met : List (Int × Int)} (hme : Mv n seen met) : ∀ (m v : Nat), n - v < m → v ≤ n →
   ∃ o, l_u67_3 N m ((n : Int), (v : Int), met) = some o ∧ ((o = .inr false ∧ ¬ ∀ w : Nat, v ≤ w → w < n → (w : Int) ∈ seen) ∨ (o = .inl () ∧ ∀ w : Nat, v ≤ w → w < n → (w : Int) ∈ seen))
 | 0, v, h, _ => absurd h (by omega)
 | m + 1, v, hm, hv => by
   rw [l_u67_3_s, cd]
   by_cases q : v < n
   rotate_left
   · rw [if_neg (by omega)]
     exact ⟨_, rfl, .inr ⟨rfl, fun w h3 h4 => by omega⟩⟩
   rw [if_pos (by omega), hme v (by omega), cd, w64n (by omega)]
   by_cases hin : (v : Int) ∈ seen
   · simp only [if_pos hin, if_neg (show ¬ (1 : Int) = 0 by decide)]
     obtain ⟨o, ho, h3⟩ := right3_loop N h2 hme m (v + 1) (by omega) (by omega)
     refine ⟨o, ho, ?_⟩
     have e : (∀ w : Nat, v ≤ w → w < n → (w : Int) ∈ seen) ↔ ∀ w : Nat, v + 1 ≤ w → w < n → (w : Int) ∈ seen := by
       constructor
       · exact fun h w h3 h4 => h w (by omega) h4
       · intro h w h3 h4
         by_cases e : w = v
         · subst e; exact hin
         · exact h w (by omega) h4
     rw [e]
     exact h3
   · simp only [if_neg hin, if_pos (show (0 : Int) = 0 from rfl)]
     exact ⟨_, rfl, .inl ⟨rfl, fun h => hin (h v (by omega) q)⟩⟩
theorem tright_eq {N : Nat} (hN : Fu + 7 ≤ N) (f : Int) {rs : List (List Int)} (hl : rs.length ≤ 9223372036854775807) (hls : ∀ r ∈ rs, r.length ≤ 9223372036854775807) : ∃ b, m_u67 N (f, rs) = some b ∧ (b = true ↔ 0 ≤ f ∧ RightF f.toNat rs) := by
 obtain ⟨N, rfl⟩ : ∃ M, N = M + 1 := ⟨N - 1, by omega⟩
 rw [m_u67_eq, sized_eq (by omega), ob]
 by_cases c : 1 ≤ f ∧ f ≤ 64
 rotate_left
 · rw [decide_eq_false c]
   exact ⟨false, rfl, by simp only [Bool.false_eq_true, false_iff]; rintro ⟨h0, h⟩; exact c ⟨by have := h.lo; omega, by have := h.hi; omega⟩⟩
 rw [decide_eq_true c]
 obtain ⟨n, rfl⟩ : ∃ n : Nat, f = n := ⟨f.toNat, by omega⟩
 simp only [Bool.not_true, cond_false, Int.toNat_natCast]
 obtain ⟨o, ho, h3⟩ := right1_loop N (by omega) (n := n) (by omega) (by omega) hl hls N 0 (-1) [] [] (by rw [Fu_eq] at hN; omega) (by omega) (by simp) (fun v _ => by simp [mget])
 rw [show ((0 : Nat) : Int) = (0 : Int) from rfl] at ho
 rw [ho, ob]
 rw [List.drop_zero, List.nil_append] at h3
 rcases h3 with ⟨rfl, h3⟩ | ⟨met, rfl, h3, h4, h5⟩
 · exact ⟨false, rfl, by simp only [Bool.false_eq_true, false_iff]; rintro ⟨_, h⟩; exact h3 ⟨h.rg, h.nd⟩⟩
 · simp only
   obtain ⟨o, ho, h6⟩ := right3_loop N (n := n) (by omega) h5 N 0 (by rw [Fu_eq] at hN; omega) (by omega)
   rw [show ((0 : Nat) : Int) = (0 : Int) from rfl] at ho
   rw [ho, ob]
   rcases h6 with ⟨rfl, h6⟩ | ⟨rfl, h6⟩
   · exact ⟨false, rfl, by simp only [Bool.false_eq_true, false_iff]; rintro ⟨_, h⟩; exact h6 fun w _ hw => h.all w hw⟩
   · exact ⟨true, rfl, by simp only [true_iff]; exact ⟨by omega, by omega, by omega, h3, h4, fun v hv => h6 v (by omega) hv⟩⟩
def Mb (n : Nat) (seen : List Int) (met : List Bool) : Prop := met.length = n ∧ ∀ v : Nat, v < n → met[v]? = some (decide ((v : Int) ∈ seen))
theorem rright2_loop (N : Nat) {n : Nat} (hn : n ≤ 64) {r : List Int} (hr : RingR r) (last : Int) (i : Int) (rs : List (List Int)) : ∀ (m k : Nat) (seen : List Int) (met : List Bool), r.length - k < m → k ≤ r.length → seen.Nodup → seen.length ≤ n → (∀ x ∈ seen, 0 ≤ x ∧ x < n) → Mb n seen met →
   ∃ o, l_u44_2 N m (last, (seen.length : Int), i, r, (k : Int), (n : Int), rs, met) = some o ∧ ((o = .inr false ∧ ¬ (seen ++ vt n (r.drop k)).Nodup) ∨
     ∃ met', o = .inl (last, ((seen ++ vt n (r.drop k)).length : Int), i, (n : Int), rs, met') ∧ (seen ++ vt n (r.drop k)).Nodup ∧ Mb n (seen ++ vt n (r.drop k)) met')
 | 0, k, seen, met, h, _, _, _, _, _ => absurd h (by omega)
 | m + 1, k, seen, met, hm, hk, hs, hsl, hsn, hme => by
   rw [l_u44_2_s, cd]
   by_cases q : k < r.length
   rotate_left
   · rw [if_neg (by omega), List.drop_eq_nil_of_le (by omega)]
     exact ⟨_, rfl, .inr ⟨met, by simp [vt], by simpa [vt] using hs, by simpa [vt] using hme⟩⟩
   rw [if_pos (by omega)]
   have hr1 := hr.1
   obtain ⟨t, ht⟩ := get_at (xs := r) (i := k) q
   have ht0 := (hr.2.1 t (List.mem_of_getElem? ht)).1
   simp only [nth_of ht, ob]
   rw [w64n (i := k) (by omega), cd, drop_at ht, vt_cons]
   by_cases c : t < (n : Int)
   · rw [if_pos c, if_pos c]
     obtain ⟨v, rfl⟩ : ∃ v : Nat, t = v := ⟨t.toNat, by omega⟩
     have hmv := hme.2 v (by omega)
     simp only [nth_of hmv, ob, cb]
     by_cases hin : (v : Int) ∈ seen
     · rw [if_pos (by simpa using hin)]
       exact ⟨_, rfl, .inl ⟨rfl, fun h => (List.nodup_append.1 h).2.2 _ hin _ (by simp) rfl⟩⟩
     · rw [if_neg (by simpa using hin), Int.toNat_natCast, w64n (by omega)]
       have hs2 : (seen ++ [(v : Int)]).Nodup := List.nodup_append.2 ⟨hs, by simp, fun x hx y hy e => hin (by simp at hy; rw [← hy, ← e]; exact hx)⟩
       have hsn2 : ∀ x ∈ seen ++ [(v : Int)], 0 ≤ x ∧ x < n := fun x hx => by
         rcases List.mem_append.1 hx with hx | hx
         · exact hsn x hx
         · simp at hx; subst hx; exact ⟨by omega, c⟩
       have hle : (seen ++ [(v : Int)]).length ≤ n := by
         have := sub_len (B := (List.range n).map fun v : Nat => (v : Int)) hs2 fun x hx => by
           have := hsn2 x hx
           exact List.mem_map.2 ⟨x.toNat, List.mem_range.2 (by omega), by omega⟩
         simpa using this
       obtain ⟨o, ho, h⟩ := rright2_loop N hn hr last i rs m (k + 1) (seen ++ [(v : Int)]) (met.set v true) (by omega) (by omega) hs2 hle hsn2 ⟨by rw [List.length_set]; exact hme.1, fun w hw => by
         rw [List.getElem?_set]
         by_cases e : v = w
         · subst e
           rw [if_pos rfl, if_pos (by rw [hme.1]; exact hw)]; simp
         · rw [if_neg e, hme.2 w hw]
           have : (w : Int) ∈ seen ++ [(v : Int)] ↔ (w : Int) ∈ seen := by simp only [List.mem_append, List.mem_singleton]; exact ⟨fun h => h.resolve_right fun e2 => e (by omega), .inl⟩
           simp only [this]⟩
       rw [List.length_append, List.length_singleton] at ho
       refine ⟨o, ho, ?_⟩
       rw [List.append_assoc] at h
       exact h
   · rw [if_neg c, if_neg c]
     exact rright2_loop N hn hr last i rs m (k + 1) seen met (by omega) (by omega) hs hsl hsn hme
theorem plain_self {r : List Int} (h : RingR r) (h0 : r ≠ []) : plainOf r = r ↔ minV r = hd0 r := by
 rw [plainOf_pos h h0]
 have hm := (minV_ok h0).1
 constructor
 · intro e
   have := rotAt_first hm
   rw [e, hd0_get h0] at this
   exact (Option.some.inj this).symm
 · intro e
   have hi : ix r (minV r) = 0 := ix_at h.2.2 (by rw [e]; exact hd0_get h0)
   unfold rotAt
   rw [hi]
   simp [rot]
theorem rright1_loop (N : Nat) (hN : Fu + 7 ≤ N) {n : Nat} (h1 : 1 ≤ n) (h2 : n ≤ 64) {rs : List (List Int)} (hl : rs.length ≤ 9223372036854775807) (hls : ∀ r ∈ rs, r.length ≤ 9223372036854775807) : ∀ (m i : Nat) (last : Int) (seen : List Int) (met : List Bool), rs.length - i < m → i ≤ rs.length → seen.Nodup → seen.length ≤ n → (∀ x ∈ seen, 0 ≤ x ∧ x < n) → Mb n seen met →
   ∃ o, l_u44_1 N m (last, (seen.length : Int), (i : Int), (n : Int), rs, met) = some o ∧ ((o = .inr false ∧ ¬ (okRs n last (rs.drop i) ∧ (seen ++ vts n (rs.drop i)).Nodup)) ∨
     (o = .inl (((seen ++ vts n (rs.drop i)).length : Int), (n : Int), rs) ∧ okRs n last (rs.drop i) ∧ (seen ++ vts n (rs.drop i)).Nodup))
 | 0, i, last, seen, met, h, _, _, _, _, _ => absurd h (by omega)
 | m + 1, i, last, seen, met, hm, hi, hs, hsl, hsn, hme => by
   rw [l_u44_1_s, cd]
   by_cases q : i < rs.length
   rotate_left
   · rw [if_neg (by omega), List.drop_eq_nil_of_le (by omega)]
     exact ⟨_, rfl, .inr ⟨by simp [vts], trivial, by simpa [vts] using hs⟩⟩
   rw [if_pos (by omega)]
   obtain ⟨r, hr⟩ := get_at (xs := rs) (i := i) q
   have hrl := hls r (List.mem_of_getElem? hr)
   rw [nth_of hr, ob, drop_at hr, rring_eq N (by omega) r (by omega), ob]
   have bad : ¬ okRg n last r → ∃ o, (some (.inr false) : Option ((Int × Int × List (List Int)) ⊕ Bool)) = some o ∧ ((o = .inr false ∧ ¬ (okRs n last (r :: rs.drop (i + 1)) ∧ (seen ++ vts n (r :: rs.drop (i + 1))).Nodup)) ∨
     (o = .inl (((seen ++ vts n (r :: rs.drop (i + 1))).length : Int), (n : Int), rs) ∧ okRs n last (r :: rs.drop (i + 1)) ∧ (seen ++ vts n (r :: rs.drop (i + 1))).Nodup)) := fun h => ⟨_, rfl, .inl ⟨rfl, fun h3 => h h3.1.1⟩⟩
   by_cases c2 : RingR r
   rotate_left
   · rw [decide_eq_false c2]
     exact bad fun h => c2 h.2.2.1
   rw [decide_eq_true c2]
   simp only [Bool.not_true, cond_false, cd]
   by_cases c0 : r = []
   · subst c0
     rw [if_pos (show (((([] : List Int).length) : Nat) : Int) = 0 from rfl)]
     exact bad fun h => h.1 rfl
   have hlen := List.length_pos_iff.2 c0
   rw [if_neg (by omega)]
   have hx : nthI r (0 : Int) = some (hd0 r) := nth_of (i := 0) (hd0_get c0)
   obtain ⟨g, hg, hg3⟩ := tree_eq (N := N) (by omega) h1 h2 c2.1 c2.2.2
   rw [hg, ob]
   cases g with
   | false =>
     exact bad fun h => by
       have := hg3.2 h.2.2.2.2
       cases this
   | true =>
     simp only [Bool.not_true, cond_false]
     rw [rplain_eq N (by omega) r (by omega), ob, lists_eq N (by omega) _ _ (by simp) (fun x hx => by
       simp only [List.mem_singleton] at hx
       subst hx
       have := plain_len c2
       omega), ob]
     have hpe : ([plainOf r] = [r]) ↔ minV r = hd0 r := by
       rw [← plain_self c2 c0]; simp
     by_cases c3 : minV r = hd0 r
     rotate_left
     · rw [decide_eq_false (fun h => c3 (hpe.1 h))]
       exact bad fun h => c3 h.2.2.2.1
     rw [decide_eq_true (hpe.2 c3)]
     simp only [hx, ob, Bool.not_true, cond_false]
     by_cases c1 : hd0 r ≤ last
     · rw [if_pos c1]
       exact bad fun h => by have := h.2.1; omega
     rw [if_neg c1]
     have hok : okRg n last r := ⟨c0, by omega, c2, c3, hg3.1 rfl⟩
     obtain ⟨o, ho, h3⟩ := rright2_loop N h2 c2 (hd0 r) (i : Int) rs N 0 seen met (by rw [Fu_eq] at hN; have := c2.1; omega) (by omega) hs hsl hsn hme
     rw [show ((0 : Nat) : Int) = (0 : Int) from rfl] at ho
     rw [ho, ob]
     rw [List.drop_zero] at h3
     rcases h3 with ⟨rfl, h3⟩ | ⟨met', rfl, h3, h4⟩
     · refine ⟨_, rfl, .inl ⟨rfl, fun h => h3 ?_⟩⟩
       have := h.2
       unfold vts at this
       rw [List.flatMap_cons, ← List.append_assoc] at this
       exact (List.nodup_append.1 this).1
     · simp only
       rw [w64n (by omega)]
       have hsn2 : ∀ x ∈ seen ++ vt n r, 0 ≤ x ∧ x < n := fun x hx => by
         rcases List.mem_append.1 hx with hx | hx
         · exact hsn x hx
         · exact (vt_in c2 hx).2
       have hle : (seen ++ vt n r).length ≤ n := by
         have := sub_len (B := (List.range n).map fun v : Nat => (v : Int)) h3 fun x hx => by
           have := hsn2 x hx
           exact List.mem_map.2 ⟨x.toNat, List.mem_range.2 (by omega), by omega⟩
         simpa using this
       obtain ⟨o, ho, h5⟩ := rright1_loop N hN h1 h2 hl hls m (i + 1) (hd0 r) (seen ++ vt n r) met' (by omega) (by omega) h3 hle hsn2 h4
       refine ⟨o, ho, ?_⟩
       have e1 : seen ++ vts n (r :: rs.drop (i + 1)) = seen ++ vt n r ++ vts n (rs.drop (i + 1)) := by
         unfold vts
         rw [List.flatMap_cons, List.append_assoc]
       rw [e1]
       rcases h5 with ⟨rfl, h5⟩ | ⟨rfl, h5, h6⟩
       · exact .inl ⟨rfl, fun h => h5 ⟨h.1.2, h.2⟩⟩
       · exact .inr ⟨rfl, ⟨hok, h5⟩, h6⟩
theorem rright_eq {N : Nat} (hN : Fu + 8 ≤ N) (f : Int) {rs : List (List Int)} (hl : rs.length ≤ 9223372036854775807) (hls : ∀ r ∈ rs, r.length ≤ 9223372036854775807) : ∃ b, m_u44 N (f, rs) = some b ∧ (b = true ↔ 0 ≤ f ∧ RightF f.toNat rs) := by
 obtain ⟨N, rfl⟩ : ∃ M, N = M + 1 := ⟨N - 1, by omega⟩
 rw [m_u44_eq, cd]
 have no : (¬ (1 ≤ f ∧ f ≤ 64)) → ∃ b, (some false : Option Bool) = some b ∧ (b = true ↔ 0 ≤ f ∧ RightF f.toNat rs) := fun c =>
   ⟨false, rfl, by simp only [Bool.false_eq_true, false_iff]; rintro ⟨h0, h⟩; exact c ⟨by have := h.lo; omega, by have := h.hi; omega⟩⟩
 by_cases c1 : f < 1
 · rw [if_pos c1]; exact no (by omega)
 rw [if_neg c1, cd]
 by_cases c2 : 64 < f
 · rw [if_pos c2]; exact no (by omega)
 rw [if_neg c2, cd]
 obtain ⟨n, rfl⟩ : ∃ n : Nat, f = n := ⟨f.toNat, by omega⟩
 rw [Int.toNat_natCast]
 by_cases c3 : (n : Int) < ((rs.length : Nat) : Int)
 · rw [if_pos c3]
   refine ⟨false, rfl, ?_⟩
   simp only [Bool.false_eq_true, false_iff]
   rintro ⟨_, h⟩
   have h3 := vts_len h.rg
   have h4 := vts_le h.rg h.nd
   omega
 rw [if_neg c3, mak_of (by omega) (by omega) (by omega), ob, Int.toNat_natCast]
 obtain ⟨o, ho, h3⟩ := rright1_loop N (by omega) (n := n) (by omega) (by omega) hl hls N 0 (-1) [] (List.replicate n false) (by rw [Fu_eq] at hN; omega) (by omega) (by simp) (by simp) (by simp) ⟨by simp, fun v hv => by simp [List.getElem?_replicate, hv]⟩
 simp only [List.length_nil, show ((0 : Nat) : Int) = (0 : Int) from rfl] at ho
 rw [ho, ob]
 rw [List.drop_zero, List.nil_append] at h3
 rcases h3 with ⟨rfl, h3⟩ | ⟨rfl, h3, h4⟩
 · exact ⟨false, rfl, by simp only [Bool.false_eq_true, false_iff]; rintro ⟨_, h⟩; exact h3 ⟨h.rg, h.nd⟩⟩
 · refine ⟨_, rfl, ?_⟩
   rw [decide_eq_true_eq]
   simp only
   have ha := vts_all h3 h4
   constructor
   · intro h
     exact ⟨by omega, by omega, by omega, h3, h4, ha.2 (by omega)⟩
   · rintro ⟨_, h⟩
     have := ha.1 h.all
     omega
end Go.Proofs.Ytdahghkmejnlgaa.Tr
namespace Go.Proofs.Ytdahghkmejnlgaa.Tr
open Go Go.RowKit
def Body (n : Nat) (r : List Int) : Prop := r ≠ [] ∧ RingR r ∧ minV r = hd0 r ∧ TourI n r
theorem hd0_mem {r : List Int} (h : r ≠ []) : hd0 r ∈ r := List.mem_of_getElem? (hd0_get h)
theorem okRs_iff {n : Nat} : ∀ {rs : List (List Int)} {last : Int}, okRs n last rs ↔ (∀ r ∈ rs, Body n r) ∧ rs.Pairwise (fun a b => hd0 a < hd0 b) ∧ ∀ r ∈ rs, last < hd0 r
 | [], last => by simp [okRs]
 | r :: rs, last => by
   rw [okRs, okRs_iff]
   simp only [List.forall_mem_cons, List.pairwise_cons]
   constructor
   · rintro ⟨⟨h1, h2, h3, h4, h5⟩, h6, h7, h8⟩
     exact ⟨⟨⟨h1, h3, h4, h5⟩, h6⟩, ⟨h8, h7⟩, h2, fun x hx => by have := h8 x hx; omega⟩
   · rintro ⟨⟨⟨h1, h3, h4, h5⟩, h6⟩, ⟨h8, h7⟩, h2, h9⟩
     exact ⟨⟨h1, h2, h3, h4, h5⟩, h6, h7, h8⟩
theorem RightF.body {n : Nat} {rs : List (List Int)} (h : RightF n rs) : ∀ r ∈ rs, Body n r := (okRs_iff.1 h.rg).1
theorem RightF.srt {n : Nat} {rs : List (List Int)} (h : RightF n rs) : rs.Pairwise fun a b => hd0 a < hd0 b := (okRs_iff.1 h.rg).2.1
theorem RightF.of {n : Nat} {rs : List (List Int)} (h1 : 1 ≤ n) (h2 : n ≤ 64) (hb : ∀ r ∈ rs, Body n r) (hp : rs.Pairwise fun a b => hd0 a < hd0 b) (hn : (vts n rs).Nodup) (ha : ∀ v : Nat, v < n → (v : Int) ∈ vts n rs) : RightF n rs :=
 ⟨h1, h2, okRs_iff.2 ⟨hb, hp, fun r hr => by
   have := hb r hr
   have := (this.2.1.2.1 _ (hd0_mem this.1)).1
   omega⟩, hn, ha⟩
theorem Body.head {n : Nat} {r : List Int} (h : Body n r) : 0 ≤ hd0 r ∧ hd0 r < n := by
 have h0 := (h.2.1.2.1 _ (hd0_mem h.1)).1
 obtain ⟨y, hy⟩ := List.exists_mem_of_ne_nil _ (tour_vert h.2.2.2)
 have h3 := vt_in h.2.1 hy
 have h4 := min_hd h.1 h.2.2.1 y h3.1
 omega
theorem Body.head_vt {n : Nat} {r : List Int} (h : Body n r) : hd0 r ∈ vt n r := by
 unfold vt
 simp only [List.mem_filter, decide_eq_true_eq]
 exact ⟨hd0_mem h.1, h.head.2⟩
theorem vt_mem {n : Nat} {r : List Int} {x : Nat} (hx : x < n) : (x : Int) ∈ vt n r ↔ (x : Int) ∈ r := by
 unfold vt
 simp only [List.mem_filter, decide_eq_true_eq]
 exact ⟨fun h => h.1, fun h => ⟨h, by omega⟩⟩
theorem flat_uniq {α β : Type} {f : α → List β} : ∀ {rs : List α}, (rs.flatMap f).Nodup → ∀ {i j : Nat} {a b : α} {x : β}, rs[i]? = some a → rs[j]? = some b → x ∈ f a → x ∈ f b → i = j
 | [], _, i, j, a, b, x, ha, _, _, _ => by simp at ha
 | r :: rs, hn, i, j, a, b, x, ha, hb, hxa, hxb => by
   rw [List.flatMap_cons, List.nodup_append] at hn
   cases i with
   | zero =>
     cases j with
     | zero => rfl
     | succ j =>
       simp only [List.getElem?_cons_zero, Option.some.injEq, List.getElem?_cons_succ] at ha hb
       subst ha
       exact absurd rfl (hn.2.2 x hxa x (List.mem_flatMap.2 ⟨b, List.mem_of_getElem? hb, hxb⟩))
   | succ i =>
     cases j with
     | zero =>
       simp only [List.getElem?_cons_zero, Option.some.injEq, List.getElem?_cons_succ] at ha hb
       subst hb
       exact absurd rfl (hn.2.2 x hxb x (List.mem_flatMap.2 ⟨a, List.mem_of_getElem? ha, hxa⟩))
     | succ j =>
       simp only [List.getElem?_cons_succ] at ha hb
       rw [flat_uniq hn.2.1 ha hb hxa hxb]
def pix : List (List Int) → Int → Nat
 | [], _ => 0
 | r :: rs, v => if v ∈ r then 0 else pix rs v + 1
theorem pix_get : ∀ {rs : List (List Int)} {v : Int}, pix rs v < rs.length → ∃ r, rs[pix rs v]? = some r ∧ v ∈ r
 | [], v, h => by simp at h
 | r :: rs, v, h => by
   rw [pix]
   split
   · rename_i c; exact ⟨r, rfl, c⟩
   · rename_i c
     rw [pix, if_neg c] at h
     simp only [List.length_cons] at h
     obtain ⟨r', h1, h2⟩ := pix_get (rs := rs) (v := v) (by omega)
     exact ⟨r', by rw [List.getElem?_cons_succ]; exact h1, h2⟩
theorem pix_lt : ∀ {rs : List (List Int)} {v : Int} {r : List Int}, r ∈ rs → v ∈ r → pix rs v < rs.length
 | x :: rs, v, r, h, hv => by
   rw [pix, List.length_cons]
   split
   · omega
   · rename_i c
     rcases List.mem_cons.1 h with rfl | h
     · exact absurd hv c
     · have := pix_lt h hv
       omega
def ringOf (rs : List (List Int)) (v : Nat) : List Int := rs.getD (pix rs (v : Int)) []
def lvN (rs : List (List Int)) (v : Nat) : Nat := (hd0 (ringOf rs v)).toNat
theorem RightF.ring {n : Nat} {rs : List (List Int)} (h : RightF n rs) {v : Nat} (hv : v < n) : rs[pix rs (v : Int)]? = some (ringOf rs v) ∧ (v : Int) ∈ ringOf rs v ∧ ringOf rs v ∈ rs ∧ pix rs (v : Int) < rs.length := by
 obtain ⟨r, hr, hx⟩ := List.mem_flatMap.1 (h.all v hv)
 have hlt := pix_lt hr ((vt_mem hv).1 hx)
 obtain ⟨r', h1, h2⟩ := pix_get hlt
 have e : ringOf rs v = r' := by unfold ringOf; rw [List.getD_eq_getElem?_getD, h1]; rfl
 rw [e]
 exact ⟨h1, h2, List.mem_of_getElem? h1, hlt⟩
theorem RightF.uniq {n : Nat} {rs : List (List Int)} (h : RightF n rs) {v : Nat} (hv : v < n) {i : Nat} {r : List Int} (hr : rs[i]? = some r) (hm : (v : Int) ∈ r) : i = pix rs (v : Int) ∧ r = ringOf rs v := by
 have h1 := h.ring hv
 have := flat_uniq (f := vt n) h.nd hr h1.1 ((vt_mem hv).2 hm) ((vt_mem hv).2 h1.2.1)
 refine ⟨this, ?_⟩
 rw [this, h1.1] at hr
 exact (Option.some.inj hr).symm
theorem RightF.lv {n : Nat} {rs : List (List Int)} (h : RightF n rs) {v : Nat} (hv : v < n) {r : List Int} (hr : r ∈ rs) (hm : (v : Int) ∈ r) : hd0 r = (lvN rs v : Int) ∧ lvN rs v < n := by
 obtain ⟨i, hi⟩ := List.getElem?_of_mem hr
 have := (h.uniq hv hi hm).2
 have h2 := (h.body r hr).head
 unfold lvN
 rw [← this]
 omega
theorem RightF.same {n : Nat} {rs : List (List Int)} (h : RightF n rs) {u v : Nat} (hu : u < n) (hv : v < n) : pix rs (u : Int) = pix rs (v : Int) ↔ lvN rs u = lvN rs v := by
 have h1 := h.ring hu
 have h2 := h.ring hv
 have e1 := (h.lv hu h1.2.2.1 h1.2.1).1
 have e2 := (h.lv hv h2.2.2.1 h2.2.1).1
 constructor
 · intro e
   rw [e, h2.1] at h1
   have := Option.some.inj h1.1
   rw [this] at e2
   omega
 · intro e
   have hb1 := h.body _ h1.2.2.1
   have hb2 := h.body _ h2.2.2.1
   refine flat_uniq (f := vt n) h.nd h1.1 h2.1 hb1.head_vt ?_
   rw [e1, e, ← e2]
   exact hb2.head_vt
theorem tour_len {n : Nat} {r : List Int} (h : TourI n r) : r.length + 2 = 3 * (vt n r).length := by
 obtain ⟨T, hT, hA⟩ := h
 have h1 := hA.len
 have h2 : r.length = T.length := by simpa using congrArg List.length hT
 have h3 : ∀ (r : List Int) (T : List Tk), r.map (dk n) = T.map some → (vt n r).length = (verts T).length := fun r => by
   induction r with
   | nil => intro T hT; cases T <;> simp [vt, verts] at hT ⊢
   | cons x r ih =>
     intro T hT
     cases T with
     | nil => simp at hT
     | cons t T =>
       simp only [List.map_cons, List.cons.injEq] at hT
       have := ih T hT.2
       rw [vt_cons, verts_cons]
       obtain ⟨a, b⟩ := t
       have hs := dk_some hT.1
       unfold ek at hs
       by_cases c : a = b
       · subst c
         simp only [if_true] at hs
         rw [if_pos (by omega), if_pos rfl]
         simp [this]
       · simp only [c, if_false] at hs
         have : n * 1 ≤ n * (a + 1) := Nat.mul_le_mul_left n (by omega)
         rw [if_neg (by omega), if_neg c]
         assumption
 rw [h2, h3 r T hT]
 exact h1
theorem vt_perm {n : Nat} {a b : List Int} (h : a.Perm b) : (vt n a).Perm (vt n b) := h.filter _
theorem vts_perm {n : Nat} {a b : List (List Int)} (h : a.Perm b) : (vts n a).Perm (vts n b) := h.flatMap_right _
def joinR (n : Nat) (u v : Nat) (a b : List Int) : List Int := [(u : Int), ek n (u, v)] ++ rotAt b (v : Int) ++ [ek n (v, u)] ++ (rotAt a (u : Int)).drop 1
theorem ek_arc {n u v : Nat} (h : u ≠ v) (hu : u < n) (hv : v < n) : (n : Int) ≤ ek n (u, v) ∧ ek n (u, v) ≤ 10000 ∨ 64 < n := by
 by_cases c : 64 < n
 · exact .inr c
 · refine .inl ?_
   unfold ek
   simp only [h, if_false]
   have h1 : n * 1 ≤ n * (u + 1) := Nat.mul_le_mul_left n (by omega)
   have h2 : n * (u + 1) ≤ 64 * 64 := Nat.mul_le_mul (by omega) (by omega)
   omega
theorem rotAt_cons {a : List Int} {u : Int} (h : u ∈ a) : rotAt a u = u :: (rotAt a u).drop 1 := by
 have := rotAt_first h
 cases hc : rotAt a u with
 | nil => rw [hc] at this; simp at this
 | cons x l => rw [hc] at this; simp at this; rw [this]; rfl
theorem rotAt_perm (a : List Int) (u : Int) : (rotAt a u).Perm a := rot_perm _ _
theorem joinR_perm {n u v : Nat} {a b : List Int} (hu : (u : Int) ∈ a) : (joinR n u v a b).Perm (ek n (u, v) :: ek n (v, u) :: (a ++ b)) := by
 unfold joinR
 have h1 : ([(u : Int), ek n (u, v)] ++ rotAt b (v : Int) ++ [ek n (v, u)] ++ (rotAt a (u : Int)).drop 1).Perm (ek n (u, v) :: ek n (v, u) :: ((u : Int) :: (rotAt a (u : Int)).drop 1 ++ rotAt b (v : Int))) := by
   have e1 : [(u : Int), ek n (u, v)] ++ rotAt b (v : Int) ++ [ek n (v, u)] ++ (rotAt a (u : Int)).drop 1 = (u : Int) :: ek n (u, v) :: (rotAt b (v : Int) ++ ek n (v, u) :: (rotAt a (u : Int)).drop 1) := by simp
   rw [e1]
   refine (List.Perm.swap _ _ _).trans (List.Perm.cons _ ?_)
   have h2 : (rotAt b (v : Int) ++ ek n (v, u) :: (rotAt a (u : Int)).drop 1).Perm (ek n (v, u) :: ((rotAt a (u : Int)).drop 1 ++ rotAt b (v : Int))) := by
     have := @List.perm_append_comm _ (rotAt b (v : Int)) (ek n (v, u) :: (rotAt a (u : Int)).drop 1)
     simpa using this
   exact (h2.cons (u : Int)).trans (List.Perm.swap _ _ _)
 rw [← rotAt_cons hu] at h1
 exact h1.trans (((((rotAt_perm a u).append (rotAt_perm b v))).cons _).cons _)
theorem mem_tour {n : Nat} {r : List Int} {T : List Tk} (hT : r.map (dk n) = T.map some) {u : Nat} (hu : u < n) : (u : Int) ∈ r ↔ (u, u) ∈ T := by
 constructor
 · intro h
   have : dk n (u : Int) ∈ T.map some := by rw [← hT]; exact List.mem_map.2 ⟨_, h, rfl⟩
   rw [dk_of_vert hu] at this
   simpa using this
 · intro h
   have : some (u, u) ∈ r.map (dk n) := by rw [hT]; exact List.mem_map.2 ⟨_, h, rfl⟩
   obtain ⟨y, hy, hy2⟩ := List.mem_map.1 this
   rw [← (dk_vert hy2).1]; exact hy
theorem joinR_tour {n u v : Nat} {a b : List Int} (hu : u < n) (hv : v < n) (ha : Body n a) (hb : Body n b) (hua : (u : Int) ∈ a) (hvb : (v : Int) ∈ b) (hd : ∀ x ∈ vt n a, x ∉ vt n b) : TourI n (joinR n u v a b) := by
 have huv : u ≠ v := fun e => by subst e; exact hd _ ((vt_mem hu).2 hua) ((vt_mem hu).2 hvb)
 have h1 : TourI n (rotAt a (u : Int)) := tour_turn.2 ha.2.2.2
 have h2 : TourI n (rotAt b (v : Int)) := tour_turn.2 hb.2.2.2
 obtain ⟨TA, hTA, hA⟩ := h1
 obtain ⟨TB, hTB, hB⟩ := h2
 rw [rotAt_cons hua] at hTA
 have hTB0 := hTB
 rw [rotAt_cons hvb] at hTB
 obtain ⟨TA, rfl⟩ : ∃ T, TA = (u, u) :: T := by
   cases TA with
   | nil => simp at hTA
   | cons t T =>
     simp only [List.map_cons, List.cons.injEq, dk_of_vert hu, Option.some.injEq] at hTA
     exact ⟨T, by rw [hTA.1]⟩
 obtain ⟨TB, rfl⟩ : ∃ T, TB = (v, v) :: T := by
   cases TB with
   | nil => simp at hTB
   | cons t T =>
     simp only [List.map_cons, List.cons.injEq, dk_of_vert hv, Option.some.injEq] at hTB
     exact ⟨T, by rw [hTB.1]⟩
 have hlt : ∀ {r : List Int} {T : List Tk}, r.map (dk n) = T.map some → ∀ x, (x, x) ∈ T → x < n := fun {r T} hT x hx => by
   have : some (x, x) ∈ r.map (dk n) := by rw [hT]; exact List.mem_map.2 ⟨_, hx, rfl⟩
   obtain ⟨y, _, hy2⟩ := List.mem_map.1 this
   exact (dk_vert hy2).2
 refine ⟨_, ?_, hA.link hB fun x hx hx2 => ?_⟩
 · unfold joinR
   simp only [List.map_cons, List.cons.injEq] at hTA
   simp only [List.map_append, List.map_cons, List.map_nil, dk_of_vert hu, dk_ek (e := (u, v)) hu hv, dk_ek (e := (v, u)) hv hu, hTB0, hTA.2, List.cons_append, List.nil_append, List.append_assoc]
 · have hxn := hlt hTA x hx
   rw [← rotAt_cons hua] at hTA
   have m1 := rotAt_mem.1 ((mem_tour hTA hxn).2 hx)
   have m2 := rotAt_mem.1 ((mem_tour hTB0 hxn).2 hx2)
   exact hd _ ((vt_mem hxn).2 m1) ((vt_mem hxn).2 m2)
theorem joinR_vt {n u v : Nat} {a b : List Int} (hn : n ≤ 64) (hu : u < n) (hv : v < n) (huv : u ≠ v) (hua : (u : Int) ∈ a) : (vt n (joinR n u v a b)).Perm (vt n a ++ vt n b) := by
 refine (vt_perm (joinR_perm hua)).trans ?_
 have h1 := ek_arc huv hu hv
 have h2 := ek_arc (fun e => huv e.symm) hv hu
 rw [vt_cons, vt_cons, if_neg (by omega), if_neg (by omega)]
 unfold vt
 rw [List.filter_append]
theorem dk_ge {n : Nat} {t : Int} {e : Tk} (h : dk n t = some e) (hn : n ≤ 64) : 0 ≤ t ∧ t ≤ 10000 := by
 have hs := dk_some h
 obtain ⟨a, b⟩ := e
 unfold ek at hs
 by_cases c : a = b
 · subst c
   simp only [if_true] at hs
   omega
 · simp only [c, if_false] at hs
   have h2 : n * (a + 1) ≤ 64 * 64 := Nat.mul_le_mul hn (by omega)
   omega
theorem joinR_ring {n u v : Nat} {a b : List Int} (hn : n ≤ 64) (hu : u < n) (hv : v < n) (ha : Body n a) (hb : Body n b) (hua : (u : Int) ∈ a) (hvb : (v : Int) ∈ b) (hd : ∀ x ∈ vt n a, x ∉ vt n b) (hln : (vt n a).length + (vt n b).length ≤ n) : RingR (joinR n u v a b) := by
 obtain ⟨T, hT, hA⟩ := joinR_tour hu hv ha hb hua hvb hd
 have huv : u ≠ v := fun e => by subst e; exact hd _ ((vt_mem hu).2 hua) ((vt_mem hu).2 hvb)
 have hl := tour_len ⟨T, hT, hA⟩
 have hp := (joinR_vt hn hu hv huv hua (b := b)).length_eq
 rw [List.length_append] at hp
 refine ⟨by omega, fun t ht => ?_, (tk_nodup hT).2 hA.nod⟩
 have : dk n t ∈ T.map some := by rw [← hT]; exact List.mem_map.2 ⟨t, ht, rfl⟩
 obtain ⟨e, _, he⟩ := List.mem_map.1 this
 exact dk_ge he.symm hn
def putR : List (List Int) → List Int → List (List Int)
 | [], r => [r]
 | x :: l, r => if hd0 x < hd0 r then x :: putR l r else r :: x :: l
theorem putR_perm : ∀ (l : List (List Int)) (r : List Int), (putR l r).Perm (r :: l)
 | [], r => List.Perm.refl _
 | x :: l, r => by
   rw [putR]
   split
   · exact ((putR_perm l r).cons x).trans (List.Perm.swap _ _ _)
   · exact List.Perm.refl _
theorem putR_srt : ∀ {l : List (List Int)} {r : List Int}, l.Pairwise (fun a b => hd0 a < hd0 b) → (∀ x ∈ l, hd0 x ≠ hd0 r) → (putR l r).Pairwise fun a b => hd0 a < hd0 b
 | [], r, _, _ => by simp [putR]
 | x :: l, r, hp, hne => by
   rw [putR]
   have h1 := List.pairwise_cons.1 hp
   split
   · rename_i c
     refine List.pairwise_cons.2 ⟨fun y hy => ?_, putR_srt h1.2 fun y hy => hne y (by simp [hy])⟩
     have := (putR_perm l r).mem_iff.1 hy
     rcases List.mem_cons.1 this with rfl | h
     · exact c
     · exact h1.1 y h
   · rename_i c
     have hx := hne x (by simp)
     refine List.pairwise_cons.2 ⟨fun y hy => ?_, hp⟩
     rcases List.mem_cons.1 hy with rfl | h
     · omega
     · have := h1.1 y h
       omega
end Go.Proofs.Ytdahghkmejnlgaa.Tr
namespace Go.Proofs.Ytdahghkmejnlgaa.Tr
open Go Go.RowKit
theorem erase_perm {α : Type} : ∀ {l : List α} {i : Nat} {x : α}, l[i]? = some x → l.Perm (x :: l.eraseIdx i)
 | [], i, x, h => by simp at h
 | y :: l, 0, x, h => by
   simp at h
   subst h
   exact List.Perm.refl _
 | y :: l, i + 1, x, h => by
   rw [List.getElem?_cons_succ] at h
   rw [List.eraseIdx_cons_succ]
   exact ((erase_perm h).cons y).trans (List.Perm.swap _ _ _)
theorem erase_lt {α : Type} {l : List α} {p q : Nat} (h : q < p) : (l.eraseIdx p)[q]? = l[q]? := by
 rw [List.getElem?_eraseIdx, if_pos h]
def restR (rs : List (List Int)) (i j : Nat) : List (List Int) := (rs.eraseIdx (max i j)).eraseIdx (min i j)
theorem restR_perm {rs : List (List Int)} {i j : Nat} {a b : List Int} (hi : rs[i]? = some a) (hj : rs[j]? = some b) (hij : i ≠ j) : rs.Perm (a :: b :: restR rs i j) := by
 unfold restR
 rcases Nat.lt_or_ge i j with h | h
 · rw [Nat.max_eq_right (by omega), Nat.min_eq_left (by omega)]
   have h1 := erase_perm hj
   have h2 := erase_perm (l := rs.eraseIdx j) (i := i) (x := a) (by rw [erase_lt h]; exact hi)
   exact (h1.trans (h2.cons b)).trans (List.Perm.swap _ _ _)
 · rw [Nat.max_eq_left (by omega), Nat.min_eq_right (by omega)]
   have h1 := erase_perm hi
   have h2 := erase_perm (l := rs.eraseIdx i) (i := j) (x := b) (by rw [erase_lt (by omega)]; exact hj)
   exact h1.trans (h2.cons a)
theorem restR_sub (rs : List (List Int)) (i j : Nat) : (restR rs i j).Sublist rs := (List.eraseIdx_sublist _ _).trans (List.eraseIdx_sublist _ _)
def linkF (n : Nat) (rs : List (List Int)) (u v : Nat) : List (List Int) := putR (restR rs (pix rs (u : Int)) (pix rs (v : Int))) (plainOf (joinR n u v (ringOf rs u) (ringOf rs v)))
theorem plain_hd {l : List Int} (h : RingR l) (h0 : l ≠ []) : hd0 (plainOf l) = minV l := by
 rw [plainOf_pos h h0]
 have := rotAt_first (minV_ok h0).1
 cases hc : rotAt l (minV l) with
 | nil => rw [hc] at this; simp at this
 | cons x r => rw [hc] at this; simp at this; rw [← this]; rfl
theorem plain_perm {l : List Int} (h : RingR l) (h0 : l ≠ []) : (plainOf l).Perm l := by
 rw [plainOf_pos h h0]; exact rotAt_perm _ _
theorem link_ok {n : Nat} {rs : List (List Int)} (h : RightF n rs) {u v : Nat} (hu : u < n) (hv : v < n) (hne : pix rs (u : Int) ≠ pix rs (v : Int)) :
   RightF n (linkF n rs u v) ∧ (∀ x, x < n → lvN (linkF n rs u v) x = jn (lvN rs) u v x) ∧ (linkF n rs u v).length + 1 = rs.length := by
 have ru := h.ring hu
 have rv := h.ring hv
 have hn := h.hi
 have ba := h.body _ ru.2.2.1
 have bb := h.body _ rv.2.2.1
 have hp := restR_perm ru.1 rv.1 hne
 generalize hrest : restR rs (pix rs (u : Int)) (pix rs (v : Int)) = rest at hp
 have hsub : rest.Sublist rs := hrest ▸ restR_sub _ _ _
 generalize ha : ringOf rs u = a at ru ba hp
 generalize hb : ringOf rs v = b at rv bb hp
 -- their vertices
 have hvp := vts_perm (n := n) hp
 have hnd : (vts n (a :: b :: rest)).Nodup := hvp.nodup_iff.1 h.nd
 have hnd2 := hnd
 unfold vts at hnd2
 rw [List.flatMap_cons, List.flatMap_cons] at hnd2
 have hA := List.nodup_append.1 hnd2
 have hB := List.nodup_append.1 hA.2.1
 have hd : ∀ x ∈ vt n a, x ∉ vt n b := fun x hx hx2 => hA.2.2 x hx x (by simp [hx2]) rfl
 have huv : u ≠ v := fun e => hne (by rw [e])
 have hall := (vts_all h.rg h.nd).1 h.all
 have hln : (vt n a).length + (vt n b).length ≤ n := by
   have := hvp.length_eq
   unfold vts at this hall
   rw [List.flatMap_cons, List.flatMap_cons, List.length_append, List.length_append] at this
   omega
 have hJ := joinR_tour hu hv ba bb ru.2.1 rv.2.1 hd
 have hJr := joinR_ring hn hu hv ba bb ru.2.1 rv.2.1 hd hln
 have hJv := joinR_vt (b := b) hn hu hv huv ru.2.1
 have hJp := joinR_perm (n := n) (v := v) (b := b) ru.2.1
 have hJ0 : joinR n u v a b ≠ [] := by unfold joinR; simp
 have hlink : linkF n rs u v = putR rest (plainOf (joinR n u v a b)) := by
   unfold linkF; rw [hrest, ha, hb]
 rw [hlink]
 generalize joinR n u v a b = J at hJ hJr hJv hJp hJ0
 have hPp := plain_perm hJr hJ0
 have hP0 : plainOf J ≠ [] := fun e => hJ0 (by rw [e] at hPp; exact hPp.symm.eq_nil)
 have hbody : Body n (plainOf J) := by
   have hr := plain_ring hJr
   refine ⟨hP0, hr, (plain_self hr hP0).1 (plain_plain hJr), ?_⟩
   rw [plainOf_pos hJr hJ0]
   exact tour_turn.2 hJ
 have hPv : (vt n (plainOf J)).Perm (vt n a ++ vt n b) := (vt_perm hPp).trans hJv
 have hput := putR_perm rest (plainOf J)
 have hvp2 : (vts n (putR rest (plainOf J))).Perm (vts n rs) := by
   refine (vts_perm hput).trans (List.Perm.trans ?_ hvp.symm)
   unfold vts
   rw [List.flatMap_cons, List.flatMap_cons, List.flatMap_cons, ← List.append_assoc]
   exact hPv.append_right _
 have hbrest : ∀ r ∈ rest, Body n r := fun r hr => h.body r (hsub.subset hr)
 -- the least one
 have hmin : hd0 (plainOf J) = min (hd0 a) (hd0 b) := by
   rw [plain_hd hJr hJ0]
   refine minV_uniq ?_ fun y hy => ?_
   · refine hJp.mem_iff.2 (List.mem_cons_of_mem _ (List.mem_cons_of_mem _ (List.mem_append.2 ?_)))
     rcases Int.le_total (hd0 a) (hd0 b) with c | c
     · rw [Int.min_eq_left c]; exact .inl (hd0_mem ba.1)
     · rw [Int.min_eq_right c]; exact .inr (hd0_mem bb.1)
   · have e1 := ek_arc huv hu hv
     have e2 := ek_arc (fun e => huv e.symm) hv hu
     have ka := ba.head
     have kb := bb.head
     rcases List.mem_cons.1 (hJp.mem_iff.1 hy) with rfl | hy
     · omega
     rcases List.mem_cons.1 hy with rfl | hy
     · omega
     rcases List.mem_append.1 hy with hy | hy
     · have := min_hd ba.1 ba.2.2.1 y hy; omega
     · have := min_hd bb.1 bb.2.2.1 y hy; omega
 have hne2 : ∀ x ∈ rest, hd0 x ≠ hd0 (plainOf J) := fun x hx e => by
   have h1 := (hbrest x hx).head_vt
   rw [e] at h1
   have h2 := hPv.mem_iff.1 hbody.head_vt
   have h3 : hd0 (plainOf J) ∈ rest.flatMap (vt n) := List.mem_flatMap.2 ⟨x, hx, h1⟩
   rcases List.mem_append.1 h2 with h2 | h2
   · exact hA.2.2 _ h2 _ (by simp only [List.mem_append]; exact .inr h3) rfl
   · exact hB.2.2 _ h2 _ h3 rfl
 have hR : RightF n (putR rest (plainOf J)) := RightF.of h.lo h.hi (fun r hr => by
     rcases List.mem_cons.1 (hput.mem_iff.1 hr) with rfl | hr
     · exact hbody
     · exact hbrest r hr) (putR_srt (h.srt.sublist hsub) hne2) (hvp2.nodup_iff.2 h.nd) fun w hw => hvp2.mem_iff.2 (h.all w hw)
 refine ⟨hR, fun x hx => ?_, ?_⟩
 · have cu := h.lv hu (hp.mem_iff.2 (by simp : a ∈ a :: b :: rest)) ru.2.1
   have cv := h.lv hv (hp.mem_iff.2 (by simp : b ∈ a :: b :: rest)) rv.2.1
   have hcc : lvN rs u ≠ lvN rs v := fun e => hne ((h.same hu hv).2 e)
   have hx2 := hvp.mem_iff.1 (h.all x hx)
   unfold vts at hx2
   rw [List.flatMap_cons, List.flatMap_cons] at hx2
   have inJ : (x : Int) ∈ vt n a ∨ (x : Int) ∈ vt n b → lvN (putR rest (plainOf J)) x = min (lvN rs u) (lvN rs v) := fun hm => by
     have hm2 : (x : Int) ∈ plainOf J := (vt_mem hx).1 (hPv.mem_iff.2 (List.mem_append.2 hm))
     have := (hR.lv hx (hput.mem_iff.2 (by simp)) hm2).1
     omega
   rcases List.mem_append.1 hx2 with hm | hm
   · have := (h.lv hx (hp.mem_iff.2 (by simp : a ∈ a :: b :: rest)) ((vt_mem hx).1 hm)).1
     rw [inJ (.inl hm)]
     unfold jn
     split <;> omega
   rcases List.mem_append.1 hm with hm | hm
   · have := (h.lv hx (hp.mem_iff.2 (by simp : b ∈ a :: b :: rest)) ((vt_mem hx).1 hm)).1
     rw [inJ (.inr hm)]
     unfold jn
     split <;> omega
   · obtain ⟨r, hr, hxr⟩ := List.mem_flatMap.1 hm
     have h1 := (h.lv hx (hsub.subset hr) ((vt_mem hx).1 hxr)).1
     have h2 := (hR.lv hx (hput.mem_iff.2 (List.mem_cons_of_mem _ hr)) ((vt_mem hx).1 hxr)).1
     have hrv := (hbrest r hr).head_vt
     have hin : hd0 r ∈ rest.flatMap (vt n) := List.mem_flatMap.2 ⟨r, hr, hrv⟩
     have n1 : hd0 r ≠ hd0 a := fun e => hA.2.2 _ ba.head_vt _ (by simp only [List.mem_append]; exact .inr hin) e.symm
     have n2 : hd0 r ≠ hd0 b := fun e => hB.2.2 _ bb.head_vt _ hin e.symm
     unfold jn
     split
     · omega
     · omega
 · have h1 := hput.length_eq
   have h2 := hp.length_eq
   simp at h1 h2
   omega
end Go.Proofs.Ytdahghkmejnlgaa.Tr
namespace Go.Proofs.Ytdahghkmejnlgaa.Tr
open Go Go.RowKit
def pixI (rs : List (List Int)) (v : Int) : Int := if pix rs v < rs.length then (pix rs v : Int) else -1
theorem rplaceF_loop (N : Nat) (hN : Fu + 1 ≤ N) (f v : Int) {rs : List (List Int)} (hl : rs.length ≤ 9223372036854775807) (hls : ∀ r ∈ rs, r.length ≤ 9223372036854775807) : ∀ (m i : Nat), rs.length - i < m → i ≤ rs.length →
   l_u46_1 N m (v, (i : Int), f, rs) = some (if pix (rs.drop i) v < (rs.drop i).length then .inr ((i + pix (rs.drop i) v : Nat) : Int) else .inl ())
 | 0, i, h, _ => absurd h (by omega)
 | m + 1, i, hm, hi => by
   rw [l_u46_1_s, cd]
   by_cases q : i < rs.length
   · rw [if_pos (by omega)]
     obtain ⟨r, hr⟩ := get_at (xs := rs) (i := i) q
     rw [nth_of hr, ob, rplace_eq N (by omega) r v (hls r (List.mem_of_getElem? hr)), ob, drop_at hr, cd, w64n (by omega), rplaceF_loop N hN f v hl hls m (i + 1) (by omega) (by omega), pix]
     by_cases c : v ∈ r
     · rw [if_pos (ixI_sign.2 c), if_pos c, if_pos (by simp)]; rfl
     · rw [if_neg (fun h => c (ixI_sign.1 h)), if_neg c]
       simp only [List.length_cons]
       by_cases c2 : pix (rs.drop (i + 1)) v < (rs.drop (i + 1)).length
       · rw [if_pos c2, if_pos (by omega)]
         congr 3; omega
       · rw [if_neg c2, if_neg (by omega)]
   · rw [if_neg (by omega), List.drop_eq_nil_of_le (by omega)]; rfl
theorem rplaceF_eq {N : Nat} (hN : Fu + 2 ≤ N) (f v : Int) {rs : List (List Int)} (hl : rs.length ≤ 9223372036854775807) (hls : ∀ r ∈ rs, r.length ≤ 9223372036854775807) : m_u46 N (f, rs, v) = some (pixI rs v) := by
 obtain ⟨N, rfl⟩ : ∃ M, N = M + 1 := ⟨N - 1, by omega⟩
 have := rplaceF_loop N (by omega) f v hl hls N 0 (by rw [Fu_eq] at hN; omega) (by omega)
 rw [show ((0 : Nat) : Int) = (0 : Int) from rfl, List.drop_zero] at this
 rw [m_u46_eq, this, ob]
 unfold pixI
 by_cases c : pix rs v < rs.length
 · rw [if_pos c, if_pos c, Nat.zero_add]
 · rw [if_neg c, if_neg c]
theorem rwithout_eq {N : Nat} (hN : 1 ≤ N) {l : List (List Int)} {i : Nat} (hi : i < l.length) (hl : l.length ≤ 100000) : m_u30 N (l, (i : Int)) = some (l.eraseIdx i) := by
 obtain ⟨N, rfl⟩ : ∃ M, N = M + 1 := ⟨N - 1, by omega⟩
 rw [m_u30_eq, sub_take (by omega) (by omega), ob, app_of (by omega) (by simp; omega), ob, w64n (by omega), sub_drop (by omega) (by omega), ob, app_of (by omega) (by simp; omega), ob, Int.toNat_natCast, Int.toNat_natCast, List.nil_append, List.eraseIdx_eq_take_drop_succ]
theorem rput_loop (N : Nat) {l : List (List Int)} {r : List Int} (hl : l.length ≤ 100000) (hne : ∀ x ∈ l, x ≠ []) (hr : r ≠ []) : ∀ (m k : Nat), l.length - k < m → k ≤ l.length →
   ∃ j, k ≤ j ∧ j ≤ l.length ∧ l_u78_1 N m (l, (k : Int), r) = some (l, (j : Int), r) ∧ putR (l.drop k) r = (l.take j).drop k ++ r :: l.drop j
 | 0, k, h, _ => absurd h (by omega)
 | m + 1, k, hm, hk => by
   rw [l_u78_1_s, cd]
   by_cases q : k < l.length
   · rw [if_pos (by omega)]
     obtain ⟨x, hx⟩ := get_at (xs := l) (i := k) q
     have hx0 := hne x (List.mem_of_getElem? hx)
     have h1 : nthI x (0 : Int) = some (hd0 x) := nth_of (i := 0) (hd0_get hx0)
     have h2 : nthI r (0 : Int) = some (hd0 r) := nth_of (i := 0) (hd0_get hr)
     rw [nth_of hx, ob]
     simp only [h1, h2, ob, cd]
     rw [drop_at hx, putR, w64n (by omega)]
     by_cases c : hd0 x < hd0 r
     · rw [if_pos c]
       obtain ⟨j, j1, j2, j3, j4⟩ := rput_loop N hl hne hr m (k + 1) (by omega) (by omega)
       refine ⟨j, by omega, j2, j3, ?_⟩
       rw [if_pos c, j4]
       have hxj : (l.take j)[k]? = some x := by rw [List.getElem?_take, if_pos (by omega)]; exact hx
       rw [drop_at hxj]; rfl
     · rw [if_neg c]
       refine ⟨k, by omega, hk, rfl, ?_⟩
       rw [if_neg c, List.drop_eq_nil_of_le (show (l.take k).length ≤ k by rw [List.length_take]; omega), drop_at hx]; rfl
   · rw [if_neg (by omega)]
     refine ⟨k, by omega, hk, rfl, ?_⟩
     rw [List.drop_eq_nil_of_le (show l.length ≤ k by omega), List.drop_eq_nil_of_le (show (l.take k).length ≤ k by rw [List.length_take]; omega)]; rfl
theorem rput_eq {N : Nat} (hN : Fu + 7 ≤ N) {l : List (List Int)} {r : List Int} (hl : l.length ≤ 10000) (hne : ∀ x ∈ l, x ≠ []) (hr : RingR r) (hr0 : r ≠ []) : m_u78 N (l, r) = some (putR l (plainOf r)) := by
 obtain ⟨N, rfl⟩ : ∃ M, N = M + 1 := ⟨N - 1, by omega⟩
 have hp0 : plainOf r ≠ [] := fun e => hr0 (by have := plain_perm hr hr0; rw [e] at this; exact this.symm.eq_nil)
 obtain ⟨j, j1, j2, j3, j4⟩ := rput_loop N (by omega) hne hp0 N 0 (by rw [Fu_eq] at hN; omega) (by omega)
 rw [show ((0 : Nat) : Int) = (0 : Int) from rfl] at j3
 rw [List.drop_zero, List.drop_zero] at j4
 rw [m_u78_eq, rplain_eq N (by omega) r (by have := hr.1; omega), ob, j3, ob]
 simp only
 rw [sub_take (by omega) (by omega), ob, app_of (by omega) (by simp; omega), ob, app_of (by omega) (by simp; omega), ob, sub_drop (by omega) (by omega), ob, app_of (by omega) (by simp; omega), ob, Int.toNat_natCast, j4]
 simp
theorem RightF.small {n : Nat} {rs : List (List Int)} (h : RightF n rs) : rs.length ≤ n ∧ ∀ r ∈ rs, r.length ≤ 1000 := by
 have h1 := vts_len h.rg
 have h2 := vts_le h.rg h.nd
 exact ⟨by omega, fun r hr => (h.body r hr).2.1.1⟩
theorem RightF.pixI {n : Nat} {rs : List (List Int)} (h : RightF n rs) {v : Nat} (hv : v < n) : Proofs.Ytdahghkmejnlgaa.Tr.pixI rs (v : Int) = (pix rs (v : Int) : Int) := if_pos (h.ring hv).2.2.2
theorem rlink_eq {N : Nat} (hN : Fu + 9 ≤ N) {n : Nat} {rs : List (List Int)} (h : RightF n rs) {u v : Nat} (hu : u < n) (hv : v < n) :
   m_u60 N ((n : Int), rs, (u : Int), (v : Int)) = some (if pix rs (u : Int) = pix rs (v : Int) then (5, (n : Int), rs) else (0, (n : Int), linkF n rs u v)) := by
 obtain ⟨N, rfl⟩ : ∃ M, N = M + 1 := ⟨N - 1, by omega⟩
 have hlo := h.lo
 have hhi := h.hi
 obtain ⟨hs1, hs2⟩ := h.small
 obtain ⟨b, hb, hb2⟩ := rright_eq (N := N) (by omega) (n : Int) (rs := rs) (by omega) (fun r hr => by have := hs2 r hr; omega)
 have hbt : b = true := hb2.2 ⟨by omega, by rw [Int.toNat_natCast]; exact h⟩
 subst hbt
 rw [m_u60_eq, hb, ob, rin_eq (by omega), ob, rin_eq (by omega), decide_eq_true (show ((1 : Int) ≤ (n : Int) ∧ (n : Int) ≤ 64) ∧ 0 ≤ (u : Int) ∧ (u : Int) < (n : Int) by omega), decide_eq_true (show ((1 : Int) ≤ (n : Int) ∧ (n : Int) ≤ 64) ∧ 0 ≤ (v : Int) ∧ (v : Int) < (n : Int) by omega)]
 simp only [ob, Bool.not_true, cond_false]
 have hpu := rplaceF_eq (N := N) (by omega) (n : Int) (u : Int) (rs := rs) (by omega) (fun r hr => by have := hs2 r hr; omega)
 have hpv := rplaceF_eq (N := N) (by omega) (n : Int) (v : Int) (rs := rs) (by omega) (fun r hr => by have := hs2 r hr; omega)
 rw [h.pixI hu] at hpu
 rw [h.pixI hv] at hpv
 simp only [hpu, hpv, ob, cd]
 by_cases hne : pix rs (u : Int) = pix rs (v : Int)
 · rw [if_pos (by omega), if_pos hne]
 rw [if_neg (by omega), if_neg hne]
 have ru := h.ring hu
 have rv := h.ring hv
 have ba := h.body _ ru.2.2.1
 have bb := h.body _ rv.2.2.1
 have huv : u ≠ v := fun e => hne (by rw [e])
 have hal := ba.2.1.1
 have hbl := bb.2.1.1
 have hp := restR_perm ru.1 rv.1 hne
 have hnd := (vts_perm (n := n) hp).nodup_iff.1 h.nd
 have hall := (vts_all h.rg h.nd).1 h.all
 have hln : (vt n (ringOf rs u)).length + (vt n (ringOf rs v)).length ≤ n := by
   have := (vts_perm (n := n) hp).length_eq
   unfold vts at this hall
   rw [List.flatMap_cons, List.flatMap_cons, List.length_append, List.length_append] at this
   omega
 have hd : ∀ x ∈ vt n (ringOf rs u), x ∉ vt n (ringOf rs v) := fun x hx hx2 => by
   unfold vts at hnd
   rw [List.flatMap_cons, List.flatMap_cons] at hnd
   exact (List.nodup_append.1 hnd).2.2 x hx x (by simp [hx2]) rfl
 have hJr := joinR_ring hhi hu hv ba bb ru.2.1 rv.2.1 hd hln
 have fa : fromOf (ringOf rs u) (u : Int) = (true, rotAt (ringOf rs u) (u : Int)) := if_pos ⟨ba.2.1, ru.2.1⟩
 have fb : fromOf (ringOf rs v) (v : Int) = (true, rotAt (ringOf rs v) (v : Int)) := if_pos ⟨bb.2.1, rv.2.1⟩
 rw [nth_of ru.1, ob, rfrom_eq N (by omega) _ _ (by omega), ob, nth_of rv.1, ob, rfrom_eq N (by omega) _ _ (by omega), ob, rarc_eq (by omega) hhi hu hv huv, ob, fa, fb]
 simp only
 have la := rotAt_len (ringOf rs u) (u : Int)
 have lb := rotAt_len (ringOf rs v) (v : Int)
 have hapos := List.length_pos_iff.2 ba.1
 rw [app_of (by omega) (by simp; omega), ob, rarc_eq (by omega) hhi hv hu (fun e => huv e.symm), ob, app_of (by omega) (by simp; omega), ob, sub_drop (by omega) (by omega), ob, app_of (by omega) (by simp; omega), ob]
 have e1 : [(u : Int), ek n (u, v)] ++ rotAt (ringOf rs v) (v : Int) ++ [ek n (v, u)] ++ (rotAt (ringOf rs u) (u : Int)).drop (Int.toNat 1) = joinR n u v (ringOf rs u) (ringOf rs v) := rfl
 rw [e1]
 have eM : (if ((pix rs (v : Int) : Nat) : Int) > ((pix rs (u : Int) : Nat) : Int) then ((pix rs (v : Int) : Nat) : Int) else ((pix rs (u : Int) : Nat) : Int)) = ((max (pix rs (u : Int)) (pix rs (v : Int)) : Nat) : Int) := by
   split <;> omega
 have em : (if ((pix rs (v : Int) : Nat) : Int) < ((pix rs (u : Int) : Nat) : Int) then ((pix rs (v : Int) : Nat) : Int) else ((pix rs (u : Int) : Nat) : Int)) = ((min (pix rs (u : Int)) (pix rs (v : Int)) : Nat) : Int) := by
   split <;> omega
 have lu := ru.2.2.2
 have lv := rv.2.2.2
 rw [eM, em, rwithout_eq (by omega) (by omega) (by omega), ob, rwithout_eq (by omega) (by rw [List.length_eraseIdx, if_pos (by omega)]; omega) (by rw [List.length_eraseIdx, if_pos (by omega)]; omega), ob]
 have hsub := restR_sub rs (pix rs (u : Int)) (pix rs (v : Int))
 have := rput_eq (N := N) (by omega) (l := restR rs (pix rs (u : Int)) (pix rs (v : Int))) (r := joinR n u v (ringOf rs u) (ringOf rs v)) (by have := hsub.length_le; omega) (fun x hx => (h.body x (hsub.subset hx)).1) hJr (by unfold joinR; simp)
 unfold restR at this
 rw [this, ob]
 rfl
def linksF (n : Nat) : List (List Int) → List (Nat × Nat) → List (List Int)
 | rs, [] => rs
 | rs, e :: l => linksF n (if pix rs (e.1 : Int) = pix rs (e.2 : Int) then rs else linkF n rs e.1 e.2) l
def boolsL (n : Nat) : List (List Int) → List (Nat × Nat) → List Bool
 | _, [] => []
 | rs, e :: l => (lvN rs e.1 != lvN rs e.2) :: boolsL n (if pix rs (e.1 : Int) = pix rs (e.2 : Int) then rs else linkF n rs e.1 e.2) l
theorem step_ok {n : Nat} {rs : List (List Int)} (h : RightF n rs) {u v : Nat} (hu : u < n) (hv : v < n) :
   RightF n (if pix rs (u : Int) = pix rs (v : Int) then rs else linkF n rs u v) ∧ (∀ x, x < n → lvN (if pix rs (u : Int) = pix rs (v : Int) then rs else linkF n rs u v) x = jn (lvN rs) u v x) ∧
     (if pix rs (u : Int) = pix rs (v : Int) then rs else linkF n rs u v).length + (if lvN rs u != lvN rs v then 1 else 0) = rs.length := by
 by_cases c : pix rs (u : Int) = pix rs (v : Int)
 · rw [if_pos c]
   have e := (h.same hu hv).1 c
   exact ⟨h, fun x hx => by rw [jn_same e], by simp [e]⟩
 · rw [if_neg c]
   have e : lvN rs u ≠ lvN rs v := fun e => c ((h.same hu hv).2 e)
   have := link_ok h hu hv c
   exact ⟨this.1, this.2.1, by rw [if_pos (by simpa using e)]; exact this.2.2⟩
theorem linksF_ok {n : Nat} : ∀ {l : List (Nat × Nat)} {rs : List (List Int)}, RightF n rs → EdOk n l → RightF n (linksF n rs l) ∧ (linksF n rs l).length + ((boolsL n rs l).filter id).length = rs.length
 | [], rs, h, _ => ⟨h, by simp [linksF, boolsL]⟩
 | e :: l, rs, h, hE => by
   have he := hE e (by simp)
   have hs := step_ok h he.1 he.2
   have ih := linksF_ok (l := l) hs.1 fun x hx => hE x (by simp [hx])
   rw [linksF, boolsL]
   refine ⟨ih.1, ?_⟩
   have h1 := ih.2
   have h2 := hs.2.2
   rw [List.filter_cons]
   simp only [id]
   by_cases c : (lvN rs e.1 != lvN rs e.2) = true
   · rw [if_pos c] at h2 ⊢
     simp only [List.length_cons]; omega
   · rw [if_neg c] at h2 ⊢
     omega
end Go.Proofs.Ytdahghkmejnlgaa.Tr
namespace Go.Proofs.Ytdahghkmejnlgaa.Tr
open Go Go.RowKit
theorem RightF.rr {N : Nat} (hN : Fu + 8 ≤ N) {n : Nat} {rs : List (List Int)} (h : RightF n rs) : m_u44 N ((n : Int), rs) = some true := by
 obtain ⟨hs1, hs2⟩ := h.small
 have hhi := h.hi
 obtain ⟨b, hb, hb2⟩ := rright_eq hN (n : Int) (rs := rs) (by omega) (fun r hr => by have := hs2 r hr; omega)
 rw [hb, hb2.2 ⟨by omega, by rw [Int.toNat_natCast]; exact h⟩]
theorem RightF.tr {N : Nat} (hN : Fu + 7 ≤ N) {n : Nat} {rs : List (List Int)} (h : RightF n rs) : m_u67 N ((n : Int), rs) = some true := by
 obtain ⟨hs1, hs2⟩ := h.small
 have hhi := h.hi
 obtain ⟨b, hb, hb2⟩ := tright_eq hN (n : Int) (rs := rs) (by omega) (fun r hr => by have := hs2 r hr; omega)
 rw [hb, hb2.2 ⟨by omega, by rw [Int.toNat_natCast]; exact h⟩]
theorem rthere_loop (N : Nat) (n : Int) (rs : List (List Int)) (l : List (Int × Int)) (hl : l.length ≤ 9223372036854775807) : ∀ (m i : Nat), l.length - i < m → i ≤ l.length →
   l_u48_1 N m (l, (i : Int), n, rs) = some (if ∀ e ∈ l.drop i, InE n e then .inl () else .inr 10)
 | 0, i, h, _ => absurd h (by omega)
 | m + 1, i, hm, hi => by
   rw [l_u48_1_s, cd]
   by_cases q : i < l.length
   · rw [if_pos (by omega)]
     obtain ⟨x, hx⟩ := get_at (xs := l) (i := i) q
     obtain ⟨a, b⟩ := x
     simp only [nth_of hx, ob, cd]
     rw [drop_at hx, w64n (by omega), rthere_loop N n rs l hl m (i + 1) (by omega) (by omega)]
     by_cases c1 : InE n (a, b)
     · have h1 := c1.1
       have h2 := c1.2
       simp only at h1 h2
       rw [if_neg (by omega), if_neg (by omega), if_neg (by omega), if_neg (by omega)]
       by_cases c3 : ∀ e ∈ l.drop (i + 1), InE n e
       · rw [if_pos c3, if_pos (List.forall_mem_cons.2 ⟨c1, c3⟩)]
       · rw [if_neg c3, if_neg (fun h => c3 (List.forall_mem_cons.1 h).2)]
     · have : ¬ ((0 ≤ a ∧ a < n) ∧ 0 ≤ b ∧ b < n) := c1
       rw [if_neg (show ¬ ∀ e ∈ (a, b) :: l.drop (i + 1), InE n e from fun h => c1 (List.forall_mem_cons.1 h).1)]
       by_cases k1 : a < 0
       · rw [if_pos k1]
       rw [if_neg k1]
       by_cases k2 : n ≤ a
       · rw [if_pos k2]
       rw [if_neg k2]
       by_cases k3 : b < 0
       · rw [if_pos k3]
       rw [if_neg k3]
       by_cases k4 : n ≤ b
       · rw [if_pos k4]
       exact absurd (by omega) this
   · rw [if_neg (by omega), List.drop_eq_nil_of_le (by omega), if_pos (by simp)]
theorem rthere_eq {N : Nat} (hN : Fu + 9 ≤ N) {n : Nat} {rs : List (List Int)} (h : RightF n rs) (l : List (Int × Int)) (hl : l.length ≤ 9223372036854775807) : m_u48 N ((n : Int), rs, l) = some (if ∀ e ∈ l, InE (n : Int) e then 0 else 10) := by
 obtain ⟨N, rfl⟩ : ∃ M, N = M + 1 := ⟨N - 1, by omega⟩
 have := rthere_loop N (n : Int) rs l hl N 0 (by rw [Fu_eq] at hN; omega) (by omega)
 rw [show ((0 : Nat) : Int) = (0 : Int) from rfl, List.drop_zero] at this
 rw [m_u48_eq, h.rr (by omega), ob]
 simp only [Bool.not_true, cond_false]
 rw [this, ob]
 by_cases c : ∀ e ∈ l, InE (n : Int) e
 · rw [if_pos c, if_pos c]
 · rw [if_neg c, if_neg c]
theorem rlinks_loop (N : Nat) (hN : Fu + 9 ≤ N) {n : Nat} (v4 : Int) {l : List (Nat × Nat)} (hE : EdOk n l) (hl : l.length ≤ 100000) : ∀ (m i : Nat) (rs : List (List Int)) (out : List Bool), l.length - i < m → i ≤ l.length → out.length ≤ i → RightF n rs →
   l_u47_1 N m (l.map edI, (i : Int), (n : Int), rs, v4, out) = some ((n : Int), linksF n rs (l.drop i), v4, out ++ boolsL n rs (l.drop i))
 | 0, i, rs, out, h, _, _, _ => absurd h (by omega)
 | m + 1, i, rs, out, hm, hi, ho, h => by
   rw [l_u47_1_s, cd]
   by_cases q : i < l.length
   · rw [if_pos (by simp; omega)]
     obtain ⟨x, hx⟩ := get_at (xs := l) (i := i) q
     have hxl := hE x (List.mem_of_getElem? hx)
     have hx' : (l.map edI)[i]? = some (edI x) := by rw [List.getElem?_map, hx]; rfl
     have hs := step_ok h hxl.1 hxl.2
     rw [nth_of hx', ob, ob]
     simp only [edI]
     rw [rlink_eq (by omega) h hxl.1 hxl.2, ob, app_of (by omega) (by simp; omega), ob, w64n (by omega), drop_at hx, linksF, boolsL]
     have hb : decide ((if pix rs (x.1 : Int) = pix rs (x.2 : Int) then ((5 : Int), (n : Int), rs) else (0, (n : Int), linkF n rs x.1 x.2)).1 = 0) = (lvN rs x.1 != lvN rs x.2) := by
       by_cases c : pix rs (x.1 : Int) = pix rs (x.2 : Int)
       · rw [if_pos c, (h.same hxl.1 hxl.2).1 c]; simp
       · have : ¬ lvN rs x.1 = lvN rs x.2 := fun e => c ((h.same hxl.1 hxl.2).2 e)
         rw [if_neg c]; simp [this]
     have h2 : (if pix rs (x.1 : Int) = pix rs (x.2 : Int) then ((5 : Int), (n : Int), rs) else (0, (n : Int), linkF n rs x.1 x.2)).2 = ((n : Int), if pix rs (x.1 : Int) = pix rs (x.2 : Int) then rs else linkF n rs x.1 x.2) := by
       split <;> rfl
     rw [hb, h2]
     simp only
     rw [rlinks_loop N hN v4 hE hl m (i + 1) _ _ (by omega) (by omega) (by simp; omega) hs.1]
     simp
   · rw [if_neg (by simp; omega), List.drop_eq_nil_of_le (by omega)]
     simp [linksF, boolsL]
theorem rlinks_eq {N : Nat} (hN : Fu + 10 ≤ N) {n : Nat} {rs : List (List Int)} (h : RightF n rs) (l : List (Int × Int)) (hl : l.length ≤ 100000) :
   m_u47 N ((n : Int), rs, l) = some (if ∀ e ∈ l, InE (n : Int) e then (0, (n : Int), linksF n rs (l.map edN), boolsL n rs (l.map edN)) else (10, (n : Int), rs, [])) := by
 obtain ⟨N, rfl⟩ : ∃ M, N = M + 1 := ⟨N - 1, by omega⟩
 rw [m_u47_eq, rthere_eq (by omega) h l (by omega), ob, cdn]
 by_cases c : ∀ e ∈ l, InE (n : Int) e
 · have hE := edOk_of (n := (n : Int)) (by omega) c
   rw [Int.toNat_natCast] at hE
   rw [if_pos c, if_pos rfl, if_pos c]
   have := rlinks_loop N (by omega) 0 hE (by simpa using hl) N 0 rs [] (by rw [Fu_eq] at hN; simp; omega) (by omega) (by simp) h
   rw [← inE_map c, show ((0 : Nat) : Int) = (0 : Int) from rfl] at this
   rw [this, ob]
   simp
 · rw [if_neg c, if_neg (by decide), if_neg c]
end Go.Proofs.Ytdahghkmejnlgaa.Tr
end
noncomputable section
set_option linter.unusedVariables false
set_option linter.unusedSimpArgs false
namespace Go.Proofs.Ytdahghkmejnlgaa
open Go Go.RowKit
theorem bit_ex (N : Nat) (hN : 1 ≤ N) (w i : Int) (h0 : 0 ≤ i) (h1 : i ≤ 31) : ∃ r, m_u76 N (w, i) = some r := by
 obtain ⟨N, rfl⟩ : ∃ n, N = n + 1 := ⟨N - 1, by omega⟩
 have hw : IntKind.wrap .u64 i = i := by simp [IntKind.wrap, IntKind.bits, IntKind.signed]; omega
 rw [m_u76_eq, cd, cd, if_neg (by omega), if_neg (by omega), hw, shrI, if_neg (by omega), ob]
 exact ⟨_, rfl⟩
theorem height_loop (N : Nat) (hN : 1 ≤ N) (w : Int) : ∀ (k n m : Nat), n + k = 8 → 1 ≤ n → k < m → ∃ h, l_u34_1 N m (w, (n : Int)) = some h ∧ 1 ≤ h ∧ h ≤ 8
 | k, n, 0, h1, h2, h3 => by omega
 | 0, n, m + 1, h1, h2, h3 => by
   rw [l_u34_1_s, cd, if_neg (by omega)]
   exact ⟨_, rfl, by omega, by omega⟩
 | k + 1, n, m + 1, h1, h2, h3 => by
   obtain ⟨r, hr⟩ := bit_ex N hN w ((n : Int) - 1) (by omega) (by omega)
   rw [l_u34_1_s, cd, if_pos (by omega), w64 (by omega) (by omega), hr, ob, cd, w64n (by omega)]
   by_cases c : r = 0
   · rw [if_pos c]; exact height_loop N hN w k (n + 1) m (by omega) (by omega) (by omega)
   · rw [if_neg c]; exact ⟨_, rfl, by omega, by omega⟩
theorem height_ex (N : Nat) (hN : Fu + 1 ≤ N) (w : Int) : ∃ h, m_u34 N w = some h ∧ 1 ≤ h ∧ h ≤ 8 := by
 obtain ⟨N, rfl⟩ : ∃ n, N = n + 1 := ⟨N - 1, by omega⟩
 obtain ⟨h, hh, a, b⟩ := height_loop N (by have := Fu_eq; omega) w 7 1 N (by omega) (by omega) (by have := Fu_eq; omega)
 rw [m_u34_eq, show (1 : Int) = ((1 : Nat) : Int) from rfl, hh, ob]
 exact ⟨h, rfl, a, b⟩
theorem at_ex (N : Nat) (hN : 1 ≤ N) (script : List Int) (t : Int) (h0 : 0 ≤ t) : ∃ w, m_u81 N (script, t) = some w := by
 obtain ⟨N, rfl⟩ : ∃ n, N = n + 1 := ⟨N - 1, by omega⟩
 rw [m_u81_eq, cd, if_neg (by omega), cd]
 by_cases c : (script.length : Int) = 0
 · rw [if_pos c]; exact ⟨_, rfl⟩
 · obtain ⟨tn, rfl⟩ : ∃ tn : Nat, t = (tn : Int) := ⟨t.toNat, by omega⟩
   obtain ⟨w, hw⟩ := get_at (xs := script) (i := tn % script.length) (Nat.mod_lt _ (by omega))
   rw [if_neg c, rem_of c, ob, tmod_nat, nth_of hw, ob]
   exact ⟨_, rfl⟩
theorem heights_loop (N : Nat) (hN : Fu + 1 ≤ N) (l script : List Int) (hl : l.length ≤ 1000) (h0 : ∀ t ∈ l, 0 ≤ t) : ∀ (k i m : Nat) (out : List Int), i + k = l.length → k < m → out.length = i → HighR out →
   ∃ hs, l_u29_1 N m (l, script, (i : Int), out) = some hs ∧ hs.length = l.length ∧ HighR hs
 | k, i, 0, out, h1, h2, h3, h4 => by omega
 | 0, i, m + 1, out, h1, h2, h3, h4 => by
   rw [l_u29_1_s, cd, if_neg (by omega)]
   exact ⟨_, rfl, by omega, h4⟩
 | k + 1, i, m + 1, out, h1, h2, h3, h4 => by
   obtain ⟨t, ht⟩ := get_at (xs := l) (i := i) (by omega)
   have ht0 := h0 t (List.mem_of_getElem? ht)
   obtain ⟨w, hw⟩ := at_ex N (by have := Fu_eq; omega) script t ht0
   obtain ⟨h, hh, a, b⟩ := height_ex N hN w
   rw [l_u29_1_s, cd, if_pos (by omega), nth_of ht, ob, cd, if_pos ht0, ob, hw, ob, hh, ob, app_of (by omega) (by simp; omega), ob, w64n (by omega)]
   refine heights_loop N hN l script hl h0 k (i + 1) m _ (by omega) (by omega) (by simp; omega) fun x hx => ?_
   rcases List.mem_append.1 hx with hx | hx
   · exact h4 x hx
   · simp only [List.mem_singleton] at hx; subst hx; exact ⟨a, b⟩
theorem heights_ex (N : Nat) (hN : Fu + 2 ≤ N) (l script : List Int) (hl : l.length ≤ 1000) (h0 : ∀ t ∈ l, 0 ≤ t) : ∃ hs, m_u29 N (l, script) = some hs ∧ hs.length = l.length ∧ HighR hs := by
 obtain ⟨N, rfl⟩ : ∃ n, N = n + 1 := ⟨N - 1, by omega⟩
 obtain ⟨hs, h1, h2, h3⟩ := heights_loop N (by omega) l script hl h0 l.length 0 N [] (by omega) (by have := Fu_eq; omega) rfl (fun x hx => by cases hx)
 rw [show ((0 : Nat) : Int) = 0 from rfl] at h1
 rw [m_u29_eq, h1, ob]
 exact ⟨hs, rfl, h2, h3⟩
def sumI (rs : List (List Int)) : Nat := (rs.map List.length).sum
theorem sumI_cons (r : List Int) (rs : List (List Int)) : sumI (r :: rs) = r.length + sumI rs := by simp [sumI]
theorem sum_vts {n : Nat} : ∀ {rs : List (List Int)}, (∀ r ∈ rs, Tr.Body n r) → sumI rs + 2 * rs.length = 3 * (Tr.vts n rs).length
 | [], _ => rfl
 | r :: rs, h => by
   have h1 := Tr.tour_len (h r (by simp)).2.2.2
   have h2 := sum_vts (rs := rs) fun x hx => h x (by simp [hx])
   have e : (Tr.vts n (r :: rs)).length = (Tr.vt n r).length + (Tr.vts n rs).length := by simp [Tr.vts]
   rw [sumI_cons, e, List.length_cons]; omega
theorem forest_sum {n : Nat} {rs : List (List Int)} (h : Tr.RightF n rs) : sumI rs + 2 * rs.length = 3 * n := by
 have h1 := sum_vts h.body
 have h2 := (Tr.vts_all h.rg h.nd).1 h.all
 omega
theorem cells_loop (N : Nat) (rs : List (List Int)) (hs : sumI rs ≤ 100000) (hl : rs.length ≤ 100000) : ∀ (k i m c : Nat), i + k = rs.length → k < m → c + sumI (rs.drop i) ≤ 100000 →
   l_u49_1 N m ((c : Int), rs, (rs.length : Int), (i : Int)) = some ((c + sumI (rs.drop i) : Nat) : Int)
 | k, i, 0, c, h1, h2, h3 => by omega
 | 0, i, m + 1, c, h1, h2, h3 => by rw [l_u49_1_s, cd, if_neg (by omega), List.drop_eq_nil_of_le (by omega)]; rfl
 | k + 1, i, m + 1, c, h1, h2, h3 => by
   obtain ⟨r, hr⟩ := get_at (xs := rs) (i := i) (by omega)
   rw [drop_at hr, sumI_cons] at h3 ⊢
   rw [l_u49_1_s, cd, if_pos (by omega), nth_of hr, ob, w64n (by omega), w64 (by omega) (by omega), show ((c : Int) + ((r.length : Nat) : Int)) = ((c + r.length : Nat) : Int) by omega, cells_loop N rs hs hl k (i + 1) m (c + r.length) (by omega) (by omega) (by omega), Nat.add_assoc]
theorem cells_eq (N : Nat) (hN : Fu + 8 ≤ N) {n : Nat} {rs : List (List Int)} (h : Tr.RightF n rs) : m_u49 N ((n : Int), rs) = some ((sumI rs : Nat) : Int) := by
 obtain ⟨N, rfl⟩ : ∃ n, N = n + 1 := ⟨N - 1, by omega⟩
 have hf := forest_sum h
 have h1 := h.small
 have h2 := h.hi
 have := cells_loop N rs (by omega) (by omega) rs.length 0 N 0 (by omega) (by have := Fu_eq; omega) (by simp only [List.drop_zero]; omega)
 rw [List.drop_zero, Nat.zero_add, show ((0 : Nat) : Int) = 0 from rfl] at this
 rw [m_u49_eq, h.tr (by omega), ob, Bool.not_true, cond_false, this, ob]
theorem fgreat_loop (N : Nat) (most f : Int) {rs : List (List Int)} (hl : rs.length ≤ 9223372036854775807) : ∀ (k i m : Nat) (c : Int), i + k = rs.length → k < m → ∃ r, l_u43_1 N m (most, c, (i : Int), f, rs) = some r
 | k, i, 0, c, h1, h2 => by omega
 | 0, i, m + 1, c, h1, h2 => by rw [l_u43_1_s, cd, if_neg (by omega)]; exact ⟨_, rfl⟩
 | k + 1, i, m + 1, c, h1, h2 => by
   obtain ⟨x, hx⟩ := get_at (xs := rs) (i := i) (by omega)
   rw [l_u43_1_s, cd, if_pos (by omega), cd]
   by_cases h : c ≤ most
   · rw [if_pos h, nth_of hx, ob, w64n (by omega)]
     exact fgreat_loop N most f hl k (i + 1) m _ (by omega) (by omega)
   · rw [if_neg h]; exact ⟨_, rfl⟩
theorem fgreat_ex (N : Nat) (hN : Fu + 1 ≤ N) (f most : Int) {rs : List (List Int)} (hl : rs.length ≤ 9223372036854775807) : ∃ b, m_u43 N (f, rs, most) = some b := by
 obtain ⟨N, rfl⟩ : ∃ n, N = n + 1 := ⟨N - 1, by omega⟩
 obtain ⟨r, hr⟩ := fgreat_loop N most f hl rs.length 0 N ((rs.length : Nat) : Int) (by omega) (by have := Fu_eq; omega)
 rw [show ((0 : Nat) : Int) = 0 from rfl] at hr
 rw [m_u43_eq, hr, ob]
 exact ⟨_, rfl⟩
theorem put_right (N : Nat) (hN : Fu + 10 ≤ N) {g f : List Int} {ns : List Nd} (hr : rightS g f ns = true) (t t2 : List Int) (t3 : List (List Int)) (h1 : t.length ≤ 1000) (h2 : t2.length ≤ 1000) : m_u79 N (g, f, ns, t, t2, t3) = some (putS g f ns t t2 t3) := by
 obtain ⟨r1, r2, _, r4⟩ := right_lens hr
 exact put_eq N hN g f (by omega) (by omega) ns r4 t t2 t3 (by omega) (by omega)
theorem room1 (N : Nat) (hN : Fu + 12 ≤ N) (script : List Int) (l : List (Int × Int)) (z : Int) {n nn : Nat} {rs : List (List Int)} (h : Tr.RightF n rs) : ∀ (k i m : Nat) (g f : List Int) (ns : List Nd) (hs : List Held), i + k = rs.length → k < m → SInv nn i g f ns hs [] → f.length = sumI (rs.drop i) →
   ∃ g' ns' hs', l_u28_1 N m (script, l, z, (i : Int), (n : Int), rs, g, f, ns) = some (.inl (l, z, (n : Int), rs, g', [], ns')) ∧ SInv nn rs.length g' [] ns' hs' []
 | k, i, 0, g, f, ns, hs, h1, h2, I, hf => by omega
 | 0, i, m + 1, g, f, ns, hs, h1, h2, I, hf => by
   obtain rfl : i = rs.length := by omega
   rw [List.drop_eq_nil_of_le (by omega)] at hf
   obtain rfl : f = [] := List.eq_nil_of_length_eq_zero hf
   rw [l_u28_1_s, cd, if_neg (by omega)]
   exact ⟨_, _, _, rfl, I⟩
 | k + 1, i, m + 1, g, f, ns, hs, h1, h2, I, hf => by
   obtain ⟨r, hr⟩ := get_at (xs := rs) (i := i) (by omega)
   have hb := h.body r (List.mem_of_getElem? hr)
   have hrl := h.small
   have hn := h.hi
   have hring : RingR r := hb.2.1
   have hr1000 := hring.1
   obtain ⟨hv, hhv, hvl, hvh⟩ := heights_ex N (by omega) r script hr1000 (fun t ht => (hring.2.1 t ht).1)
   have hT : TowR r hv := ⟨hb.1, hvl, hring, hvh⟩
   have hTR : TowerR r hv (nextOf hv) := ⟨hT, rfl⟩
   rw [drop_at hr, sumI_cons] at hf
   have hroom : (takeN r.length g f).1 = 0 := takeN_room _ (rightS_cells.1 I.right).1 (by omega) fun d hd => by have := I.gens d.toNat; omega
   rw [l_u28_1_s, cd, if_pos (by omega), nth_of hr, ob, ob, hhv, ob, rbuild_eq N (by omega) r hv (by omega) (by omega), ob, buildOf, if_pos hT]
   simp only
   rw [put_right N (by omega) I.right r hv (nextOf hv) hr1000 (by omega), ob]
   rcases putS_cases g f ns r hv (nextOf hv) with ⟨_, ht, h0, e⟩ | ⟨h0, e, e1, e2⟩
   · have P := put_ok I.right hTR h0
     rw [e]
     simp only
     have hfl : f.length = (takeN r.length g f).2.2.1.length + (takeN r.length g f).2.2.2.length := by
       have := congrArg List.length P.free
       simpa using this
     have hll := P.holds.len
     obtain ⟨g', ns', hs', e', I'⟩ := room1 N hN script l z h k (i + 1) m _ _ _ _ (by omega) (by omega) (I.put P) (by omega)
     refine ⟨g', ns', hs', ?_, I'⟩
     simp only [decide_true, Bool.not_true, cond_false]
     rw [w64n (by omega)]
     exact e'
   · exact absurd hroom (e1 I.right hTR)
theorem room2 (N : Nat) (n full g : Int) (s s2 : List Int) (s3 : List Nd) (a : Int) (a2 : List (List Int)) (taken : List Bool) (hl : taken.length ≤ 100000) : ∀ (k i m c : Nat), i + k = taken.length → k < m → c ≤ 2 * i →
   l_u28_2 N m (n, full, g, (c : Int), (i : Int), s, s2, s3, a, a2, taken) = some (n, full, g, ((c + 2 * ((taken.drop i).filter id).length : Nat) : Int), s, s2, s3, a, a2)
 | k, i, 0, c, h1, h2, h3 => by omega
 | 0, i, m + 1, c, h1, h2, h3 => by rw [l_u28_2_s, cd, if_neg (by omega), List.drop_eq_nil_of_le (by omega)]; rfl
 | k + 1, i, m + 1, c, h1, h2, h3 => by
   obtain ⟨x, hx⟩ := get_at (xs := taken) (i := i) (by omega)
   rw [l_u28_2_s, cd, if_pos (by omega), nth_of hx, ob, ob, drop_at hx, w64n (by omega)]
   cases x with
   | true =>
     rw [cond_true, w64 (by omega) (by omega), show ((c : Int) + 2) = ((c + 2 : Nat) : Int) by omega, room2 N n full g s s2 s3 a a2 taken hl k (i + 1) m (c + 2) (by omega) (by omega) (by omega)]
     simp only [List.filter_cons, id, if_true, List.length_cons]
     congr 5
     omega
   | false =>
     rw [cond_false, room2 N n full g s s2 s3 a a2 taken hl k (i + 1) m c (by omega) (by omega) (by omega)]
     simp
theorem one_tower : TowerR [0] [1] (nextOf [1]) := by
 refine ⟨⟨by simp, rfl, ⟨by simp, fun t ht => ?_, by simp⟩, fun x hx => ?_⟩, rfl⟩
 · simp only [List.mem_singleton] at ht; omega
 · simp only [List.mem_singleton] at hx; omega
theorem storeRoom (N : Nat) (hN : Fu + 14 ≤ N) (f : Int) (rs : List (List Int)) (script : List Int) (l : List (Int × Int)) (hl : rs.length ≤ 9223372036854775807) (hls : ∀ r ∈ rs, r.length ≤ 9223372036854775807) : m_u28 N (f, rs, script, l) = some true := by
 obtain ⟨N, rfl⟩ : ∃ n, N = n + 1 := ⟨N - 1, by omega⟩
 obtain ⟨b, hb⟩ := fgreat_ex N (by omega) f 80 hl
 rw [m_u28_eq, alive30 (by omega), ob, hb, ob]
 simp only [Bool.not_true, cond_false]
 cases b with
 | true => rfl
 | false =>
   rw [cond_false, cd]
   by_cases hA : (12 : Int) < (l.length : Int)
   · rw [if_pos hA]
   · rw [if_neg hA]
     obtain ⟨b1, hb1, i1⟩ := Tr.tright_eq (N := N - 1) (by omega) f hl hls
     obtain ⟨b2, hb2, i2⟩ := Tr.rright_eq (N := N) (by omega) f hl hls
     by_cases hR : 0 ≤ f ∧ Tr.RightF f.toNat rs
     · obtain ⟨h0, h⟩ := hR
       obtain ⟨n, rfl⟩ : ∃ n : Nat, f = (n : Int) := ⟨f.toNat, by omega⟩
       rw [Int.toNat_natCast] at h
       have hsum := forest_sum h
       have hsm := h.small
       have hlo := h.lo
       have hhi := h.hi
       obtain ⟨em, I⟩ := make_inv (sumI rs) (by omega) (by omega)
       rw [cells_eq N (by omega) h, ob, h.rr (by omega), ob, Bool.not_true, cond_false, w64 (x := 3 * (n : Int)) (by omega) (by omega), w64 (x := 2 * ((rs.length : Nat) : Int)) (by omega) (by omega), w64 (by omega) (by omega), cdn, if_pos (by omega), smake_eq N (by omega), em, ob, cdn, if_pos rfl]
       simp only
       have hfl : (upI (sumI rs)).reverse.length = sumI (rs.drop 0) := by rw [List.length_reverse, upI_len, List.drop_zero]
       obtain ⟨g', ns', hs', e1, I'⟩ := room1 N (by omega) script l ((sumI rs : Nat) : Int) h rs.length 0 N _ _ _ _ (by omega) (by have := Fu_eq; omega) I hfl
       rw [show ((0 : Nat) : Int) = 0 from rfl] at e1
       rw [e1, ob]
       simp only
       have e2 : m_u41 N ([(0 : Int)], [(1 : Int)]) = some (0, [0], [1], nextOf [1]) := by
         rw [rbuild_eq N (by omega) _ _ (by simp) (by simp), buildOf, if_pos one_tower.1]
       have htk : (takeN ([(0 : Int)] : List Int).length g' []).1 = 2 := by
         have hrb := (rightS_cells.1 I'.right).1
         have : takeP g' [] = (2, g', [], 0, 0) := by unfold takeP; rw [if_pos hrb]; rfl
         show (takeN (0 + 1) g' []).1 = 2
         rw [takeN_f (by rw [this]; simp), this]
       have e3 : m_u79 N (g', [], ns', [0], [1], nextOf [1]) = some (2, g', [], ns', 0, 0) := by
         rw [put_right N (by omega) I'.right _ _ _ (by simp) (by simp), putS, if_neg (by rw [I'.right]; simp), if_neg (show ¬ ¬ TowerR [0] [1] (nextOf [1]) from fun q => q one_tower), if_pos (by rw [htk]; decide), htk]
       rw [e2, ob]
       simp only
       rw [e3, ob, Tr.rlinks_eq (by omega) h l (by omega), ob]
       have hl2 : l.length ≤ 100000 := by omega
       by_cases c : ∀ e ∈ l, Tr.InE (n : Int) e
       · have hE := Tr.edOk_of (n := (n : Int)) (by omega) c
         rw [Int.toNat_natCast] at hE
         obtain ⟨hF, hlen⟩ := Tr.linksF_ok h hE
         have hbl : (Tr.boolsL n rs (l.map Tr.edN)).length = l.length := by
           have : ∀ (m : List (Nat × Nat)) (rs : List (List Int)), (Tr.boolsL n rs m).length = m.length := fun m => by
             induction m with
             | nil => intro rs; rfl
             | cons e m ih => intro rs; simp [Tr.boolsL, ih]
           rw [this, List.length_map]
         rw [if_pos c]
         simp only
         have h2 := room2 N ((sumI rs : Nat) : Int) 2 0 g' [] ns' (n : Int) (Tr.linksF n rs (l.map Tr.edN)) (Tr.boolsL n rs (l.map Tr.edN)) (by omega) (Tr.boolsL n rs (l.map Tr.edN)).length 0 N 0 (by omega) (by have := Fu_eq; omega) (by omega)
         rw [show ((0 : Nat) : Int) = 0 from rfl, List.drop_zero] at h2
         rw [h2, ob]
         simp only
         have hs2 := forest_sum hF
         rw [cells_eq N (by omega) hF, w64 (by omega) (by omega)]
         simp only [decide_true, cond_true, List.length_nil, Bool.not_true, cond_false, ob]
         simp
         omega
       · rw [if_neg c]
         simp only
         have h2 := room2 N ((sumI rs : Nat) : Int) 2 10 g' [] ns' (n : Int) rs [] (by simp) 0 0 N 0 (by simp) (by have := Fu_eq; omega) (by omega)
         rw [show ((0 : Nat) : Int) = 0 from rfl, List.drop_zero] at h2
         rw [h2, ob]
         simp
     · have f1 : b1 = false := by cases b1 with | true => exact absurd (i1.1 rfl) hR | false => rfl
       have f2 : b2 = false := by cases b2 with | true => exact absurd (i2.1 rfl) hR | false => rfl
       have hc : m_u49 N (f, rs) = some 0 := by
         obtain ⟨M, rfl⟩ : ∃ M, N = M + 1 := ⟨N - 1, by omega⟩
         rw [m_u49_eq, show M = M + 1 - 1 by omega, hb1, ob, f1]; rfl
       rw [hc, ob, hb2, ob, f2]
       rfl
end Go.Proofs.Ytdahghkmejnlgaa
end
noncomputable section
set_option linter.unusedVariables false
set_option linter.unusedSimpArgs false
namespace Go.Proofs.Ytdahghkmejnlgaa.lawStoreRoom
open Go Go.ChangeShapes Go.WideShapes Go.ChangeAt Go.RowKit
theorem own : ownKnob Try.prog.godebug = none := by kernel_rfl
theorem lOut : laidOutB Try.prog = true := by kernel_rfl
theorem parOk : ∀ t ∈ Try.f7.params.toList, Try.prog.readableRec t = true ∧ t < Try.prog.types.size := by
 intro t ht
 rw [Try.params7] at ht
 simp at ht
 rcases ht with rfl | rfl | rfl
 all_goals exact ⟨by kernel_rfl, of_decide_eq_true (by kernel_rfl)⟩
theorem code0 : tyC Try.prog 9 63 (.pr (.i .i64) (.sl (.sl (.i .i64)))) = true := by kernel_rfl
theorem code1 : tyC Try.prog 9 64 (.sl (.i .u32)) = true := by kernel_rfl
theorem code2 : tyC Try.prog 9 65 (.sl (.pr (.i .i64) (.i .i64))) = true := by kernel_rfl
theorem agg0 : aggB Try.prog 63 = true := by kernel_rfl
theorem agg1 : aggB Try.prog 64 = false := by kernel_rfl
theorem agg2 : aggB Try.prog 65 = false := by kernel_rfl
theorem res (N : Nat) : (c_u28 N).el true EV (fun e _ => some e) = some (.sc .b true) := by kernel_rfl
set_option maxRecDepth 100000 in
theorem contract (H : Type) (enc : TypeId × Value → H) (W : World) (base : Nat) (args : Array Value) (ds gs : List (DataW H)) (before : List MemPlace)
   (hval : ∀ (j : Nat) t v, Try.f7.params[j]? = some t → args[j]? = some v → Value.okWide Try.prog W .any base t v)
   (hW : DataW.Whole enc Try.prog Try.f7.params.toList Rows.storeRoomSpec.vars false W args.toList ds gs before) 
   (hz : (DataW.weightsEach Try.prog (Try.f7.params.toList ++ (OpenSpec.ofChange Rows.storeRoomSpec).bare.plain.varTypes Try.prog) (ds ++ gs)).all (· ≤ reachBytes) = true) :
   Calls Try.prog 7 args W fun e W' => ∃ v, e = .returned v ∧ Rows.storeRoomSpec.post enc Try.prog Try.f7 false true false false W args v W' := by
 have hW' := hW
 obtain ⟨p, q, hA0, hV, rfl, hfz, hnd⟩ := hW
 have hA : DataW.TrodAll enc Try.prog W 0 (fun _ => true) true Try.f7.params.toList args.toList ds p := hA0
 have hval2 := hval
 rw [Try.params7] at hA hval
 obtain ⟨v0, vs0, d0, ds0, p0, q0, hargs, rfl, rfl, h0, r0⟩ := trodAll_cons hA
 obtain ⟨v1, vs1, d1, ds1, p1, q1, rfl, rfl, rfl, h1, r1⟩ := trodAll_cons r0
 obtain ⟨v2, vs2, d2, ds2, p2, q2, rfl, rfl, rfl, h2, r2⟩ := trodAll_cons r1
 obtain ⟨rfl, rfl, rfl⟩ := trodAll_nil r2
 obtain rfl : args = #[v0, v1, v2] := by cases args; simp_all
 obtain ⟨rfl, rfl⟩ := trodVars_none hV
 refine law_post lOut rfl parOk rfl Try.underlying4 hW' rfl ?_
 clear hW' hA0 hval2
 have hz' := hz
 rw [Try.params7] at hz'
 obtain ⟨y0, f0, z0, a0, b0⟩ := open_argz code0 (hval 0 63 v0 rfl rfl) h0
 replace z0 := z0 fun n hn => of_decide_eq_true (List.all_eq_true.1 hz' n (DataW.weights_mem_each (j := 0) rfl rfl n hn))
 obtain ⟨y1, f1, z1, a1, b1⟩ := open_argz code1 (hval 1 64 v1 rfl rfl) h1
 replace z1 := z1 fun n hn => of_decide_eq_true (List.all_eq_true.1 hz' n (DataW.weights_mem_each (j := 1) rfl rfl n hn))
 obtain ⟨y2, f2, z2, a2, b2⟩ := open_argz code2 (hval 2 65 v2 rfl rfl) h2
 replace z2 := z2 fun n hn => of_decide_eq_true (List.all_eq_true.1 hz' n (DataW.weights_mem_each (j := 2) rfl rfl n hn))
 obtain ⟨N, hN⟩ : ∃ N, Fu + 20 ≤ N := ⟨_, Nat.le_refl _⟩
 have hm : m_u28 N (y0.1, y0.2, y1, y2) = some true := storeRoom N (by omega) _ _ _ _ f0.2.1 (fun r h => (f0.2.2 r h).1)
 have hc := c_u28_ok N
 have hr := res N
 unfold c_u28 at hc hr
 refine calls_of_ctr hc hm (fun b o u h => by obtain ⟨_, _, _, h, _⟩ := h; cases h) (vs := [v0, v1, v2]) ?_ hr rfl
 · exact LR.cons (a0 agg0) (LR.cons (b1 agg1) (LR.cons (b2 agg2) (LR.nil)))
def witWorld (os : Os) : World := World.holding Try.prog os ⟨#[], #[], []⟩
theorem laid_met (os : Os) : laidMet Try.prog Rows.storeRoomRow.laid ((witWorld os).forCall (fun _ _ => 0) ⟨#[], #[.agg #[.int .i64 0, .slice none 0 0], .slice none 0 0, .slice none 0 0], []⟩).memory := ⟨[], rfl, List.nodup_nil, fun _ _ h => by cases h⟩
theorem reads (os : Os) {H : Type} (enc : TypeId × Value → H) : ∃ places, DataW.whole enc Try.prog ((witWorld os).forCall (fun _ _ => 0) ⟨#[], #[.agg #[.int .i64 0, .slice none 0 0], .slice none 0 0, .slice none 0 0], []⟩).memory Try.f7.params.toList Rows.storeRoomSpec.vars false (#[.agg #[.int .i64 0, .slice none 0 0], .slice none 0 0, .slice none 0 0] : Array Value).toList 8 = some ([.agg [.lit (.int .i64 0), .nil], .nil, .nil], [], places) :=
 ⟨[], by kernel_rfl⟩
set_option maxRecDepth 100000 in
theorem lifted (os : Os) (started : os.Started) (H : Type) (enc : TypeId × Value → H) (F : Stop.Interp) :
   ReturnsInHanded {} Try.checked os 7 .any ((OpenSpec.ofChange Rows.storeRoomSpec).preRow enc Try.prog Try.f7 Rows.storeRoomRow.domain false Rows.storeRoomRow.laid) (((OpenSpec.ofChange Rows.storeRoomSpec).at F).post enc Try.prog Try.f7 false true false false) := by
 obtain ⟨places, hx⟩ := reads os enc
 refine returnsInHanded_of_row (C := Try.checked) (s := (OpenSpec.ofChange Rows.storeRoomSpec)) own started (by kernel_rfl) Try.func7
   (witness_row_at (enc := enc) (C := Try.checked) false (witWorld os) #[.agg #[.int .i64 0, .slice none 0 0], .slice none 0 0, .slice none 0 0] rfl (by kernel_rfl) (by kernel_rfl) (by kernel_rfl)
     (OpenSpec.preRow_of_cond 8 hx (by kernel_rfl) (fun k hk => by cases hk) (by kernel_rfl) (laid_met os))) ?_
 intro W base args ds gs before hval hW _ hcond hz hL _ _
 exact contract H enc W base args ds gs before hval hW hz
theorem said : Rows.StoreRoomSaid :=
 OpenClaim.holds_of_cond 7 Try.f7 rfl rfl rfl rfl rfl rfl rfl ⟨rfl, rfl, rfl, rfl, rfl⟩ rfl rfl rfl rfl rfl (by kernel_rfl) Try.func7 (by kernel_rfl)
   (of_decide_eq_true (by kernel_rfl)) (by unfold Func.isWrapper; first | (rw [if_pos (by decide +kernel)]; kernel_rfl) | (rw [if_neg (by decide +kernel)]; exact ⟨rfl, rfl⟩))
   (fun os started H enc _ F => by rw [OpenClaim.pre_eq_preRow]; exact lifted os started H enc F)
end Go.Proofs.Ytdahghkmejnlgaa.lawStoreRoom
end
