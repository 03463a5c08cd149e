/- StoreBack: the seat's texts as one (5 of 5; printed by wip/prune.py). -/
import Derived.Test.YtdahghkmejnlgaaZStoreBack4
noncomputable section
set_option linter.unusedVariables false
set_option linter.unusedSimpArgs false
namespace Go.Proofs.Ytdahghkmejnlgaa
open Go Go.RowKit
abbrev Nd := Int × (Int × List (Int × Int))
def emptyN (x : Nd) : Bool := decide (x.1 = 0) && (decide (x.2.1 = 0) && decide (x.2.2 = []))
def fullN (g f : List Int) (x : Nd) : Bool := decide (0 ≤ x.1 ∧ 1 ≤ x.2.1 ∧ x.2.1 ≤ 8 ∧ (x.2.2.length : Int) = x.2.1) && x.2.2.all fun h => goodB g f h.1 h.2
def cellOk (g f : List Int) (c : Nat) (x : Nd) : Bool := if (c : Int) ∈ f then emptyN x else fullN g f x
def cellsFrom (g f : List Int) : Nat → List Nd → Bool
 | _, [] => true
 | c, x :: xs => cellOk g f c x && cellsFrom g f (c + 1) xs
def rightS (g f : List Int) (ns : List Nd) : Bool := rightB g f && (decide (ns.length = g.length) && cellsFrom g f 0 ns)
def LN (ns : List Nd) : Prop := ns.length ≤ 9223372036854775807 ∧ ∀ x ∈ ns, x.2.2.length ≤ 9223372036854775807
theorem cellsFrom_iff {g f : List Int} : ∀ {c : Nat} {ns : List Nd}, cellsFrom g f c ns = true ↔ ∀ i x, ns[i]? = some x → cellOk g f (c + i) x = true
 | c, [] => by simp [cellsFrom]
 | c, x :: xs => by
   simp only [cellsFrom, Bool.and_eq_true, cellsFrom_iff (c := c + 1) (ns := xs)]
   constructor
   · rintro ⟨h1, h2⟩ i y hy
     cases i with
     | zero => simp at hy; subst hy; exact h1
     | succ i => simp at hy; have := h2 i y hy; rwa [show c + 1 + i = c + (i + 1) by omega] at this
   · intro h
     refine ⟨h 0 x rfl, fun i y hy => ?_⟩
     have := h (i + 1) y (by simpa using hy)
     rwa [show c + (i + 1) = c + 1 + i by omega] at this
theorem empty_eq (N : Nat) (hN : Fu ≤ N) (a b : Int) (l : List (Int × Int)) : m_u40 N (a, b, l) = some (emptyN (a, b, l)) := by
 obtain ⟨N, rfl⟩ : ∃ n, N = n + 1 := ⟨N - 1, by have := Fu_eq; omega⟩
 rw [m_u40_eq, cd, cd]
 unfold emptyN
 by_cases h1 : a = 0
 · by_cases h2 : b = 0
   · rw [if_pos h1, if_pos h2]
     cases l <;> simp [h1, h2]
     omega
   · rw [if_pos h1, if_neg h2]; simp [h1, h2]
 · rw [if_neg h1]; simp [h1]
theorem odd_handle (N : Nat) (hN : Fu + 4 ≤ N) (h h2 : Int) (g f : List Int) (hg : g.length ≤ 9223372036854775807) (hm : f.length ≤ 9223372036854775807) : m_u24 N (h, h2, g, f) = some (!goodB g f h h2, (g, f)) := by
 obtain ⟨N, rfl⟩ : ∃ n, N = n + 1 := ⟨N - 1, by omega⟩
 rw [m_u24_eq, good_eq N (by omega) g f h h2 hg hm, ob]
theorem fullf_loop (N : Nat) (hN : Fu + 4 ≤ N) (g f : List Int) (hg : g.length ≤ 9223372036854775807) (hm : f.length ≤ 9223372036854775807) (l : List (Int × Int)) (hl : l.length ≤ 9223372036854775807) : ∀ (k i m : Nat), i + k = l.length → k < m →
   ∃ j : Nat, l_u4_1 N m (l, ((l.length : Nat) : Int), (i : Int), g, f) = some (if (l.drop i).all (fun h => goodB g f h.1 h.2) = true then .inl (g, f) else .inr ((j : Int), (g, f)))
 | k, i, 0, h1, h2 => by omega
 | 0, i, m + 1, h1, h2 => by
   refine ⟨0, ?_⟩
   rw [l_u4_1_s, cd, if_neg (by omega), List.drop_eq_nil_of_le (by omega), if_pos (by simp)]
 | k + 1, i, m + 1, h1, h2 => by
   obtain ⟨x, hx⟩ := get_at (xs := l) (i := i) (by omega)
   obtain ⟨j, ih⟩ := fullf_loop N hN g f hg hm l hl k (i + 1) m (by omega) (by omega)
   rw [l_u4_1_s, cd, if_pos (by omega), nth_of hx, ob, odd_handle N hN _ _ g f hg hm, ob, cb, w64n (by omega), ih, drop_at hx]
   cases h : goodB g f x.1 x.2 with
   | true => exact ⟨j, by rw [List.all_cons, h, Bool.true_and]; rfl⟩
   | false => exact ⟨i, by rw [List.all_cons, h, Bool.false_and]; rfl⟩
theorem fullf_eq (N : Nat) (hN : Fu + 6 ≤ N) (g f : List Int) (hg : g.length ≤ 9223372036854775807) (hm : f.length ≤ 9223372036854775807) (l : List (Int × Int)) (hl : l.length ≤ 9223372036854775807) : m_u0 N (l, g, f) = some (!(l.all fun h => goodB g f h.1 h.2), (g, f)) := by
 obtain ⟨N, rfl⟩ : ∃ n, N = n + 2 := ⟨N - 2, by omega⟩
 rw [m_u0_eq, m_u4_eq]
 obtain ⟨j, hj⟩ := fullf_loop N (by omega) g f hg hm l hl l.length 0 N (by omega) (by have := Fu_eq; omega)
 rw [show ((0 : Int) = ((0 : Nat) : Int)) from rfl, hj, List.drop_zero]
 cases h : l.all fun h => goodB g f h.1 h.2 with
 | true => simp [ob]
 | false => simp [ob]
theorem full_eq (N : Nat) (hN : Fu + 7 ≤ N) (g f : List Int) (hg : g.length ≤ 9223372036854775807) (hm : f.length ≤ 9223372036854775807) (a b : Int) (l : List (Int × Int)) (hl : l.length ≤ 9223372036854775807) : m_u54 N (g, f, a, b, l) = some (fullN g f (a, b, l)) := by
 obtain ⟨N, rfl⟩ : ∃ n, N = n + 1 := ⟨N - 1, by omega⟩
 rw [m_u54_eq, cd, cd, cd, cdn, fullf_eq N (by omega) g f hg hm l hl, ob]
 unfold fullN
 by_cases h1 : a < 0
 · rw [if_pos h1]; have : ¬ (0 ≤ a) := by omega
   simp [this]
 rw [if_neg h1]
 by_cases h2 : b < 1
 · rw [if_pos h2]; have : ¬ (1 ≤ b) := by omega
   simp [this]
 rw [if_neg h2]
 by_cases h3 : 8 < b
 · rw [if_pos h3]; have : ¬ (b ≤ 8) := by omega
   simp [this]
 rw [if_neg h3]
 by_cases h4 : ((l.length : Nat) : Int) = b
 · rw [if_pos h4]
   have : 0 ≤ a ∧ 1 ≤ b ∧ b ≤ 8 ∧ ((l.length : Nat) : Int) = b := ⟨by omega, by omega, by omega, h4⟩
   simp [this]
 · rw [if_neg h4]; simp [h4]
theorem sright_loop (N : Nat) (hN : Fu + 7 ≤ N) (g f : List Int) (hg : g.length ≤ 9223372036854775807) (hm : f.length ≤ 9223372036854775807) (ns : List Nd) (hl : LN ns) : ∀ (k i m : Nat), i + k = ns.length → k < m →
   l_u39_1 N m (ns, ((ns.length : Nat) : Int), (i : Int), g, f, ns) = some (if cellsFrom g f i (ns.drop i) = true then .inl () else .inr false)
 | k, i, 0, h1, h2 => by omega
 | 0, i, m + 1, h1, h2 => by
   rw [l_u39_1_s, cd, if_neg (by omega), List.drop_eq_nil_of_le (by omega)]; simp [cellsFrom]
 | k + 1, i, m + 1, h1, h2 => by
   obtain ⟨x, hx⟩ := get_at (xs := ns) (i := i) (by omega)
   have ih := sright_loop N hN g f hg hm ns hl k (i + 1) m (by omega) (by omega)
   have hxl := hl.2 x (List.mem_of_getElem? hx)
   have hil := hl.1
   rw [l_u39_1_s, cd, if_pos (by omega), nth_of hx, ob, contains_eq N (by omega) f _ hm, ob, cb, empty_eq N (by omega), ob, full_eq N hN g f hg hm _ _ _ hxl, ob, w64n (by omega), ih, drop_at hx]
   simp only [cellsFrom, cellOk]
   by_cases h : (i : Int) ∈ f
   · simp only [h, decide_true, if_true, if_pos]
     cases emptyN x <;> simp
   · simp only [h, decide_false, if_false]
     cases fullN g f x <;> simp
theorem sright_eq (N : Nat) (hN : Fu + 8 ≤ N) (g f : List Int) (hg : g.length ≤ 9223372036854775807) (hm : f.length ≤ 9223372036854775807) (ns : List Nd) (hl : LN ns) : m_u39 N (g, f, ns) = some (rightS g f ns) := by
 obtain ⟨N, rfl⟩ : ∃ n, N = n + 1 := ⟨N - 1, by omega⟩
 rw [m_u39_eq, right_eq N (by omega) g f hg hm, ob, cdn]
 unfold rightS
 cases rightB g f with
 | false => rfl
 | true =>
   by_cases h : ns.length = g.length
   · have := sright_loop N (by omega) g f hg hm ns hl ns.length 0 N (by omega) (by have := Fu_eq; have := hl.1; omega)
     rw [if_pos (by omega), show ((0 : Int) = ((0 : Nat) : Int)) from rfl, this, ob, List.drop_zero]
     cases cellsFrom g f 0 ns <;> simp [h]
   · rw [if_neg (by omega)]; simp [h]
end Go.Proofs.Ytdahghkmejnlgaa
end
noncomputable section
set_option linter.unusedVariables false
set_option linter.unusedSimpArgs false
namespace Go.Proofs.Ytdahghkmejnlgaa
open Go Go.RowKit
abbrev Hd := Int × Int
def ixH : List Hd → Hd → Nat
 | [], _ => 0
 | x :: l, h => if x = h then 0 else ixH l h + 1
def plI (l : List Hd) (h : Hd) : Int := if h ∈ l then (ixH l h : Int) else -1
theorem ixH_at : ∀ {l : List Hd}, l.Nodup → ∀ {i : Nat} {h : Hd}, l[i]? = some h → ixH l h = i
 | [], _, i, h, hi => by simp at hi
 | x :: l, hn, i, h, hi => by
   rw [List.nodup_cons] at hn
   unfold ixH
   cases i with
   | zero => simp at hi; rw [if_pos hi]
   | succ i =>
     simp at hi
     have hm := List.mem_of_getElem? hi
     have : x ≠ h := fun e => hn.1 (e ▸ hm)
     rw [if_neg this, ixH_at hn.2 hi]
theorem ixH_zero {l : List Hd} {h h0 : Hd} (hm : h ∈ l) (h1 : l[0]? = some h0) : ixH l h = 0 ↔ h = h0 := by
 cases l with
 | nil => simp at h1
 | cons x l =>
   simp at h1; subst h1
   unfold ixH
   by_cases e : x = h
   · rw [if_pos e]; simp [e]
   · rw [if_neg e]
     constructor
     · intro h; omega
     · intro h; exact absurd h.symm e
theorem hd_eq (a b : Hd) : ((decide (a.1 = b.1)) && (decide (a.2 = b.2))) = decide (a = b) := by
 obtain ⟨a1, a2⟩ := a
 obtain ⟨b1, b2⟩ := b
 simp only [Prod.mk.injEq, Bool.decide_and]
def mapF : Nat → List Hd → List (Hd × Int)
 | _, [] => []
 | k, h :: l => (h, (k : Int)) :: mapF (k + 1) l
abbrev kH : Sc := .pr (.i .i64) (.i .i64)
theorem eqV_hd (a b : Hd) : eqV kH a b = decide (a = b) := by
 by_cases h : a = b
 · rw [(eqV_iff kH a b rfl).2 h]; simp [h]
 · have : eqV kH a b = false := by
     cases hb : eqV kH a b with
     | false => rfl
     | true => exact absurd ((eqV_iff kH a b rfl).1 hb) h
   rw [this]; simp [h]
theorem mapF_get : ∀ (k : Nat) (l : List Hd) (h : Hd), mget kH (mapF k l) h = if h ∈ l then some ((k + ixH l h : Nat) : Int) else none
 | k, [], h => by simp [mapF, mget]
 | k, x :: l, h => by
   simp only [mapF, mget, eqV_hd, cd]
   by_cases e : x = h
   · rw [if_pos e, if_pos (by simp [e]), ixH, if_pos e]; simp
   · rw [if_neg e, mapF_get (k + 1) l h]
     have : h ∈ x :: l ↔ h ∈ l := by
       rw [List.mem_cons]; exact ⟨fun h1 => h1.resolve_left fun q => e q.symm, .inr⟩
     by_cases hm : h ∈ l
     · rw [if_pos hm, if_pos (this.2 hm), ixH, if_neg e, show k + 1 + ixH l h = k + (ixH l h + 1) by omega]
     · rw [if_neg hm, if_neg fun q => hm (this.1 q)]
theorem mapF_put : ∀ (k : Nat) (l : List Hd) (h : Hd), h ∉ l → mput kH (mapF k l) h ((k + l.length : Nat) : Int) = mapF k (l ++ [h])
 | k, [], h, _ => by simp [mapF, mput]
 | k, x :: l, h, hn => by
   have e : ¬ x = h := fun e => hn (by simp [e])
   simp only [mapF, mput, eqV_hd, cd, List.cons_append]
   rw [if_neg e]
   have := mapF_put (k + 1) l h (fun hm => hn (by simp [hm]))
   rw [show k + 1 + l.length = k + (x :: l).length by simp; omega] at this
   rw [this]
def nd (ns : List Nd) (h : Hd) : Nd := ns.getD h.1.toNat (0, (0, []))
def nx0 (ns : List Nd) (h : Hd) : Hd := (nd ns h).2.2.getD 0 (0, 0)
def trip (ns : List Nd) : Nat → List Hd → Hd → List Hd × Hd
 | 0, met, h => (met, h)
 | k + 1, met, h => if h ∈ met then (met, h) else trip ns k (met ++ [h]) (nx0 ns h)
def GoodL (g f : List Int) (l : List Hd) : Prop := ∀ h ∈ l, goodB g f h.1 h.2 = true
theorem rightS_iff {g f : List Int} {ns : List Nd} : rightS g f ns = true ↔ rightB g f = true ∧ ns.length = g.length ∧ ∀ i x, ns[i]? = some x → cellOk g f i x = true := by
 simp only [rightS, Bool.and_eq_true, decide_eq_true_eq, cellsFrom_iff, Nat.zero_add]
theorem good_node {g f : List Int} {ns : List Nd} (hr : rightS g f ns = true) {h : Hd} (hg : goodB g f h.1 h.2 = true) :
   ns[h.1.toNat]? = some (nd ns h) ∧ ((h.1.toNat : Nat) : Int) = h.1 ∧ 0 ≤ (nd ns h).1 ∧ 1 ≤ (nd ns h).2.1 ∧ (nd ns h).2.1 ≤ 8 ∧ ((nd ns h).2.2.length : Int) = (nd ns h).2.1 ∧ GoodL g f (nd ns h).2.2 ∧ (nd ns h).2.2[0]? = some (nx0 ns h) ∧ goodB g f (nx0 ns h).1 (nx0 ns h).2 = true := by
 obtain ⟨h1, h2, h3⟩ := rightS_iff.1 hr
 obtain ⟨_, c0, c1, _, c3⟩ := goodB_iff.1 hg
 have hlt : h.1.toNat < ns.length := by omega
 have hx : ns[h.1.toNat]? = some (nd ns h) := by
   unfold nd; rw [List.getD_eq_getElem?_getD, List.getElem?_eq_getElem hlt]; rfl
 have hc := h3 _ _ hx
 have hi : ((h.1.toNat : Nat) : Int) = h.1 := by omega
 unfold cellOk at hc
 rw [if_neg (by rw [hi]; exact c3)] at hc
 unfold fullN at hc
 simp only [Bool.and_eq_true, decide_eq_true_eq, List.all_eq_true] at hc
 obtain ⟨⟨a1, a2, a3, a4⟩, a5⟩ := hc
 have h0 : 0 < (nd ns h).2.2.length := by omega
 have hn : (nd ns h).2.2[0]? = some (nx0 ns h) := by
   unfold nx0; rw [List.getD_eq_getElem?_getD, List.getElem?_eq_getElem h0]; rfl
 exact ⟨hx, hi, a1, a2, a3, a4, a5, hn, a5 _ (List.mem_of_getElem? hn)⟩
theorem good_inj {g f : List Int} {a b : Hd} (ha : goodB g f a.1 a.2 = true) (hb : goodB g f b.1 b.2 = true) (h : a.1 = b.1) : a = b := by
 obtain ⟨_, _, _, a4, _⟩ := goodB_iff.1 ha
 obtain ⟨_, _, _, b4, _⟩ := goodB_iff.1 hb
 refine Prod.ext h ?_
 rw [← a4, ← b4, h]
theorem good_len {g f : List Int} {l : List Hd} (hg : GoodL g f l) (hn : l.Nodup) : l.length ≤ g.length := by
 have h1 : (l.map (·.1)).Nodup := by
   rw [List.Nodup, List.pairwise_map]
   refine List.Pairwise.imp_of_mem ?_ hn
   intro a b ha hb hne e
   exact hne (good_inj (hg a ha) (hg b hb) e)
 have := nodup_sub (r := upI g.length) h1 fun c hc => by
   obtain ⟨h, hh, rfl⟩ := List.mem_map.1 hc
   obtain ⟨_, c0, c1, _⟩ := goodB_iff.1 (hg h hh)
   exact mem_upI.2 ⟨c0, c1⟩
 rw [upI_len, List.length_map] at this
 exact this
theorem nodup_snoc {α : Type} {l : List α} {x : α} (h : l.Nodup) (hx : x ∉ l) : (l ++ [x]).Nodup := by
 rw [List.nodup_append]
 refine ⟨h, by simp, fun a ha b hb e => ?_⟩
 simp at hb; subst hb; subst e; exact hx ha
theorem goodL_snoc {g f : List Int} {l : List Hd} {h : Hd} (hl : GoodL g f l) (hh : goodB g f h.1 h.2 = true) : GoodL g f (l ++ [h]) := fun x hx => by
 rcases List.mem_append.1 hx with hx | hx
 · exact hl x hx
 · simp at hx; subst hx; exact hh
structure TripOk (g f : List Int) (met : List Hd) (r : List Hd × Hd) : Prop where
 mem : r.2 ∈ r.1
 good : GoodL g f r.1
 nd : r.1.Nodup
 pre : ∃ s, r.1 = met ++ s
theorem trip_ok {g f : List Int} {ns : List Nd} (hr : rightS g f ns = true) : ∀ (k : Nat) (met : List Hd) (h : Hd), GoodL g f met → met.Nodup → goodB g f h.1 h.2 = true → g.length + 1 ≤ k + met.length → TripOk g f met (trip ns k met h)
 | 0, met, h, h1, h2, h3, h4 => by have := good_len h1 h2; omega
 | k + 1, met, h, h1, h2, h3, h4 => by
   unfold trip
   by_cases hm : h ∈ met
   · rw [if_pos hm]; exact ⟨hm, h1, h2, [], by simp⟩
   · rw [if_neg hm]
     obtain ⟨a, b, c, s, d⟩ := trip_ok hr k (met ++ [h]) (nx0 ns h) (goodL_snoc h1 h3) (nodup_snoc h2 hm) (good_node hr h3).2.2.2.2.2.2.2.2 (by simp; omega)
     exact ⟨a, b, c, h :: s, by rw [d]; simp⟩
theorem round_loop {g f : List Int} {ns : List Nd} (N : Nat) (hr : rightS g f ns = true) : ∀ (k m : Nat) (met : List Hd) (h : Hd), GoodL g f met → met.Nodup → goodB g f h.1 h.2 = true → g.length + 1 ≤ k + met.length → k < m →
   l_u15_1 N m (g, f, ns, h.1, h.2, mapF 0 met, met) = some ((ixH (trip ns k met h).1 (trip ns k met h).2 : Int), g, f, ns, mapF 0 (trip ns k met h).1, (trip ns k met h).1)
 | k, 0, met, h, h1, h2, h3, h4, h5 => by omega
 | 0, m + 1, met, h, h1, h2, h3, h4, h5 => by have := good_len h1 h2; omega
 | k + 1, m + 1, met, h, h1, h2, h3, h4, h5 => by
   have hl := good_len h1 h2
   have hgl := (right_len (rightS_iff.1 hr).1).1
   rw [l_u15_1_s, show ((h.1, h.2) : Hd) = h from rfl, mapF_get, cb, Nat.zero_add]
   unfold trip
   by_cases hm : h ∈ met
   · rw [if_pos hm, if_pos hm]; rfl
   · obtain ⟨hx, hi, _, _, _, _, _, hn, hgn⟩ := good_node hr h3
     rw [if_neg hm, if_neg hm, if_neg (by simp), app_of (by omega) (by simp; omega), ob, nth_at hx hi.symm, ob, nth_at (j := (0 : Int)) hn rfl, ob]
     have hp := mapF_put 0 met h hm
     rw [Nat.zero_add] at hp
     rw [hp]
     exact round_loop N hr k m (met ++ [h]) (nx0 ns h) (goodL_snoc h1 h3) (nodup_snoc h2 hm) hgn (by simp; omega) (by omega)
theorem round_eq {g f : List Int} {ns : List Nd} (N : Nat) (hN : Fu + 1 ≤ N) (hr : rightS g f ns = true) {h : Hd} (hh : goodB g f h.1 h.2 = true) :
   m_u15 N (h.1, h.2, g, f, ns, []) = some ((ixH (trip ns (g.length + 1) [] h).1 (trip ns (g.length + 1) [] h).2 : Int), g, f, ns, mapF 0 (trip ns (g.length + 1) [] h).1, (trip ns (g.length + 1) [] h).1) := by
 obtain ⟨N, rfl⟩ : ∃ n, N = n + 1 := ⟨N - 1, by omega⟩
 have hgl := (right_len (rightS_iff.1 hr).1).1
 have := round_loop N hr (g.length + 1) N [] h (by intro x hx; cases hx) List.nodup_nil hh (by simp) (by have := Fu_eq; omega)
 rw [show mapF 0 [] = [] from rfl] at this
 rw [m_u15_eq, this, ob]
end Go.Proofs.Ytdahghkmejnlgaa
end
noncomputable section
set_option linter.unusedVariables false
set_option linter.unusedSimpArgs false
namespace Go.Proofs.Ytdahghkmejnlgaa
open Go Go.RowKit
def tokS (ns : List Nd) (l : List Hd) : List Int := l.map fun h => (nd ns h).1
def hgtS (ns : List Nd) (l : List Hd) : List Int := l.map fun h => (nd ns h).2.1
def nxtS (ns : List Nd) (met l : List Hd) : List (List Int) := l.map fun h => (nd ns h).2.2.map (plI met)
def allIn (ns : List Nd) (met l : List Hd) : Bool := l.all fun h => (nd ns h).2.2.all fun q => decide (q ∈ met)
theorem tow2 (N : Nat) (v16 v17 : Int) (g f : List Int) (ns : List Nd) (a b : Int) (x3 nx met : List Hd) (hn : nx.length ≤ 8) (T H : List Int) (X : List (List Int)) : ∀ (k i m : Nat) (acc : List Int), i + k = nx.length → k < m → acc.length ≤ i →
   l_u16_2 N m (v16, v17, nx, ((nx.length : Nat) : Int), (i : Int), g, f, ns, a, b, x3, acc, met, mapF 0 met, T, H, X) =
     some (if (nx.drop i).all (fun q => decide (q ∈ met)) = true then .inl (v16, v17, g, f, ns, a, b, x3, acc ++ (nx.drop i).map (plI met), met, mapF 0 met, T, H, X) else .inr (false, g, f, ns, met, mapF 0 met))
 | k, i, 0, acc, h1, h2, h3 => by omega
 | 0, i, m + 1, acc, h1, h2, h3 => by
   rw [l_u16_2_s, cd, if_neg (by omega), List.drop_eq_nil_of_le (by omega)]; simp
 | k + 1, i, m + 1, acc, h1, h2, h3 => by
   obtain ⟨x, hx⟩ := get_at (xs := nx) (i := i) (by omega)
   rw [l_u16_2_s, cd, if_pos (by omega), nth_of hx, ob, show ((x.1, x.2) : Hd) = x from rfl, mapF_get, cb, drop_at hx, List.all_cons]
   by_cases hm : x ∈ met
   · rw [if_pos hm, if_neg (by simp), app_of (by omega) (by simp; omega), ob, w64n (by omega), tow2 N v16 v17 g f ns a b x3 nx met hn T H X k (i + 1) m _ (by omega) (by omega) (by simp; omega)]
     rw [show decide (x ∈ met) = true by simp [hm], Bool.true_and]
     have e : plI met x = (Option.getD (some ((0 + ixH met x : Nat) : Int)) 0) := by simp [plI, hm]
     rw [List.map_cons, e]
     simp only [List.append_assoc, List.singleton_append]
   · rw [if_neg hm, if_pos (by simp)]
     rw [show decide (x ∈ met) = false by simp [hm], Bool.false_and]; rfl
theorem tow1 (N : Nat) (hN : Fu ≤ N) {g f : List Int} {ns : List Nd} (hr : rightS g f ns = true) (met : List Hd) (hg : GoodL g f met) (hl : met.length ≤ 1000) : ∀ (k i m : Nat) (T H : List Int) (X : List (List Int)), i + k = met.length → k < m → T.length ≤ i → H.length ≤ i → X.length ≤ i →
   l_u16_1 N m (((met.length : Nat) : Int), (i : Int), g, f, ns, met, mapF 0 met, T, H, X) =
     some (if allIn ns met (met.drop i) = true then .inl (g, f, ns, met, mapF 0 met, T ++ tokS ns (met.drop i), H ++ hgtS ns (met.drop i), X ++ nxtS ns met (met.drop i)) else .inr (false, g, f, ns, met, mapF 0 met))
 | k, i, 0, T, H, X, h1, h2, h3, h4, h5 => by omega
 | 0, i, m + 1, T, H, X, h1, h2, h3, h4, h5 => by
   rw [l_u16_1_s, cd, if_neg (by omega), List.drop_eq_nil_of_le (by omega)]; simp [allIn, tokS, hgtS, nxtS]
 | k + 1, i, m + 1, T, H, X, h1, h2, h3, h4, h5 => by
   obtain ⟨x, hx⟩ := get_at (xs := met) (i := i) (by omega)
   obtain ⟨hn, hi, _, _, n3, n4, _⟩ := good_node hr (hg x (List.mem_of_getElem? hx))
   have hin := tow2 N ((met.length : Nat) : Int) (i : Int) g f ns (nd ns x).1 (nd ns x).2.1 (nd ns x).2.2 (nd ns x).2.2 met (by omega) T H X (nd ns x).2.2.length 0 N [] (by omega) (by have := Fu_eq; omega) (by simp)
   rw [List.drop_zero, List.nil_append] at hin
   rw [l_u16_1_s, cd, if_pos (by omega), nth_of hx, ob, ob, nth_at hn hi.symm, ob, show ((0 : Int) = ((0 : Nat) : Int)) from rfl, hin, ob, drop_at hx]
   simp only [allIn, tokS, hgtS, nxtS, List.all_cons, List.map_cons]
   cases h : (nd ns x).2.2.all fun q => decide (q ∈ met) with
   | false => rw [Bool.false_and]; rfl
   | true =>
     rw [Bool.true_and]
     simp only [if_true]
     rw [app_of (by omega) (by simp; omega), ob, app_of (by omega) (by simp; omega), ob, app_of (by omega) (by simp; omega), ob, w64n (by omega), tow1 N hN hr met hg hl k (i + 1) m _ _ _ (by omega) (by omega) (by simp; omega) (by simp; omega) (by simp; omega)]
     simp only [allIn, tokS, hgtS, nxtS, List.append_assoc, List.singleton_append]
def towS (ns : List Nd) (met : List Hd) : Prop := allIn ns met met = true ∧ TowerR (tokS ns met) (hgtS ns met) (nxtS ns met met)
instance (ns : List Nd) (met : List Hd) : Decidable (towS ns met) := Classical.propDecidable _
theorem ttower_eq (N : Nat) (hN : Fu + 7 ≤ N) {g f : List Int} {ns : List Nd} (hr : rightS g f ns = true) (met : List Hd) (hg : GoodL g f met) (hl : met.length ≤ 1000) :
   m_u16 N (g, f, ns, met, mapF 0 met) = some (if towS ns met then (true, tokS ns met, hgtS ns met, nxtS ns met met, met, mapF 0 met, g, f, ns) else (false, [], [], [], met, mapF 0 met, g, f, ns)) := by
 obtain ⟨N, rfl⟩ : ∃ n, N = n + 1 := ⟨N - 1, by omega⟩
 have h1 := tow1 N (by omega) hr met hg hl met.length 0 N [] [] [] (by omega) (by have := Fu_eq; omega) (by simp) (by simp) (by simp)
 rw [List.drop_zero, List.nil_append, List.nil_append, List.nil_append] at h1
 rw [m_u16_eq, show ((0 : Int) = ((0 : Nat) : Int)) from rfl, h1, ob]
 by_cases ha : allIn ns met met = true
 · rw [if_pos ha]
   simp only []
   rw [tright_eq N (by omega) _ _ _ (by simp [tokS]; omega) (by simp [hgtS]; omega), ob]
   by_cases ht : TowerR (tokS ns met) (hgtS ns met) (nxtS ns met met)
   · rw [if_pos (show towS ns met from ⟨ha, ht⟩)]; simp [ht]
   · rw [if_neg (fun h : towS ns met => ht h.2)]; simp [ht]
 · rw [if_neg ha, if_neg (fun h : towS ns met => ha h.1)]
def tripOf (g : List Int) (ns : List Nd) (h : Hd) : List Hd × Hd := trip ns (g.length + 1) [] h
def readS (g f : List Int) (ns : List Nd) (h : Hd) : Int × List Int × List Int × List (List Int) × List Hd :=
 if rightS g f ns = false then (1, [], [], [], []) else if goodB g f h.1 h.2 = false then (3, [], [], [], []) else
 if (tripOf g ns h).2 = h ∧ towS ns (tripOf g ns h).1 then (0, tokS ns (tripOf g ns h).1, hgtS ns (tripOf g ns h).1, nxtS ns (tripOf g ns h).1 (tripOf g ns h).1, (tripOf g ns h).1) else (8, [], [], [], [])
theorem tripOf_ok {g f : List Int} {ns : List Nd} (hr : rightS g f ns = true) {h : Hd} (hg : goodB g f h.1 h.2 = true) : TripOk g f [h] (tripOf g ns h) ∧ (tripOf g ns h).1[0]? = some h ∧ (tripOf g ns h).1.length ≤ 1000 := by
 have hgl := (right_len (rightS_iff.1 hr).1).1
 have h1 : tripOf g ns h = trip ns g.length [h] (nx0 ns h) := by
   unfold tripOf
   rw [trip, if_neg (by simp), List.nil_append]
 have h2 := trip_ok hr g.length [h] (nx0 ns h) (fun x hx => by simp at hx; subst hx; exact hg) (by simp) (good_node hr hg).2.2.2.2.2.2.2.2 (by simp)
 rw [← h1] at h2
 refine ⟨h2, ?_, ?_⟩
 · obtain ⟨s, hs⟩ := h2.pre
   rw [hs]; rfl
 · have := good_len h2.good h2.nd; omega
theorem read_eq (N : Nat) (hN : Fu + 9 ≤ N) (g f : List Int) (hg : g.length ≤ 9223372036854775807) (hm : f.length ≤ 9223372036854775807) (ns : List Nd) (hl : LN ns) (h h2 : Int) : m_u53 N (g, f, ns, h, h2) = some (readS g f ns (h, h2)) := by
 obtain ⟨N, rfl⟩ : ∃ n, N = n + 1 := ⟨N - 1, by omega⟩
 rw [m_u53_eq, sright_eq N (by omega) g f hg hm ns hl, ob]
 unfold readS
 cases hr : rightS g f ns with
 | false => rfl
 | true =>
   rw [good_eq N (by omega) g f h h2 hg hm, ob]
   cases hgd : goodB g f h h2 with
   | false => rfl
   | true =>
     rw [if_neg (by decide), if_neg (by decide)]
     obtain ⟨ht, h0, hlen⟩ := tripOf_ok hr (h := (h, h2)) hgd
     have h1 := round_eq N (by omega) hr (h := (h, h2)) hgd
     rw [show trip ns (g.length + 1) [] (h, h2) = tripOf g ns (h, h2) from rfl] at h1
     rw [h1, ob]
     simp only [Bool.not_true, cond_false]
     rw [ttower_eq N (by omega) hr _ ht.good hlen, ob, cdn]
     have hz := ixH_zero ht.mem h0
     by_cases hw : (tripOf g ns (h, h2)).2 = (h, h2)
     · rw [if_pos (by have := hz.2 hw; omega)]
       by_cases hs : towS ns (tripOf g ns (h, h2)).1
       · rw [if_pos hs, if_pos ⟨hw, hs⟩]; rfl
       · rw [if_neg hs, if_neg fun q => hs q.2]; rfl
     · rw [if_neg (fun q => hw (hz.1 (by omega))), if_neg fun q => hw q.1]
theorem plI_nonneg {l : List Hd} {h : Hd} (hp : 0 ≤ plI l h) : h ∈ l := by
 unfold plI at hp
 by_cases hm : h ∈ l
 · exact hm
 · rw [if_neg hm] at hp; omega
theorem next_nonneg {hs : List Int} {x : List Int} (hx : x ∈ nextOf hs) : ∀ y ∈ x, 0 ≤ y := by
 intro y hy
 unfold nextOf at hx
 obtain ⟨i, _, rfl⟩ := List.mem_map.1 hx
 unfold linksOf at hy
 obtain ⟨j, _, rfl⟩ := List.mem_map.1 hy
 unfold linkOf; omega
theorem towS_iff {ns : List Nd} {met : List Hd} : towS ns met ↔ TowerR (tokS ns met) (hgtS ns met) (nxtS ns met met) := by
 refine ⟨fun h => h.2, fun h => ⟨?_, h⟩⟩
 unfold allIn
 simp only [List.all_eq_true, decide_eq_true_eq]
 intro x hx q hq
 have h2 : (nd ns x).2.2.map (plI met) ∈ nextOf (hgtS ns met) := by
   rw [← h.2]; exact List.mem_map.2 ⟨x, hx, rfl⟩
 exact plI_nonneg (next_nonneg h2 _ (List.mem_map.2 ⟨q, hq, rfl⟩))
end Go.Proofs.Ytdahghkmejnlgaa
end
noncomputable section
set_option linter.unusedVariables false
set_option linter.unusedSimpArgs false
namespace Go.Proofs.Ytdahghkmejnlgaa
open Go Go.RowKit
def leadsFrom (l : List Hd) : Nat → List Nd → Bool
 | _, [] => false
 | c, x :: xs => (!(l.any fun h => decide (h.1 = (c : Int))) && x.2.2.any fun q => decide (q ∈ l)) || leadsFrom l (c + 1) xs
theorem lead1_loop (N : Nat) (hN : Fu ≤ N) (l : List Hd) (hl : l.length ≤ 9223372036854775807) (c : Int) : ∀ (k i m : Nat), i + k = l.length → k < m →
   ∃ j : Nat, l_u5_1 N m (l, ((l.length : Nat) : Int), (i : Int), c) = some (if (l.drop i).any (fun h => decide (h.1 = c)) = true then .inr ((j : Int), c) else .inl c)
 | k, i, 0, h1, h2 => by omega
 | 0, i, m + 1, h1, h2 => by
   refine ⟨0, ?_⟩
   rw [l_u5_1_s, cd, if_neg (by omega), List.drop_eq_nil_of_le (by omega), if_neg (by simp)]
 | k + 1, i, m + 1, h1, h2 => by
   obtain ⟨x, hx⟩ := get_at (xs := l) (i := i) (by omega)
   obtain ⟨j, ih⟩ := lead1_loop N hN l hl c k (i + 1) m (by omega) (by omega)
   have h1' : m_u25 N (x.1, x.2, c) = some (decide (x.1 = c), c) := by
     obtain ⟨N, rfl⟩ : ∃ n, N = n + 1 := ⟨N - 1, by have := Fu_eq; omega⟩
     rw [m_u25_eq]
   rw [l_u5_1_s, cd, if_pos (by omega), nth_of hx, ob, h1', ob, cd, w64n (by omega), ih, drop_at hx, List.any_cons]
   by_cases h : x.1 = c
   · exact ⟨i, by rw [if_pos h, show decide (x.1 = c) = true by simp [h], Bool.true_or]; rfl⟩
   · exact ⟨j, by rw [if_neg h, show decide (x.1 = c) = false by simp [h], Bool.false_or]⟩
theorem lead1_eq (N : Nat) (hN : Fu + 2 ≤ N) (l : List Hd) (hl : l.length ≤ 9223372036854775807) (c : Int) : m_u1 N (l, c) = some (l.any (fun h => decide (h.1 = c)), c) := by
 obtain ⟨N, rfl⟩ : ∃ n, N = n + 2 := ⟨N - 2, by omega⟩
 rw [m_u1_eq, m_u5_eq]
 obtain ⟨j, hj⟩ := lead1_loop N (by omega) l hl c l.length 0 N (by omega) (by have := Fu_eq; omega)
 rw [show ((0 : Int) = ((0 : Nat) : Int)) from rfl, hj, List.drop_zero]
 cases h : l.any fun h => decide (h.1 = c) with
 | true => simp [ob]
 | false => simp [ob]
theorem hindex_loop (N : Nat) (l : List Hd) (hl : l.length ≤ 9223372036854775807) (v v2 : Int) : ∀ (k i m : Nat), i + k = l.length → k < m →
   ∃ j : Nat, l_u13_1 N m (l, ((l.length : Nat) : Int), (i : Int), v, v2) = some (if (v, v2) ∈ l.drop i then .inr (j : Int) else .inl ())
 | k, i, 0, h1, h2 => by omega
 | 0, i, m + 1, h1, h2 => by
   refine ⟨0, ?_⟩
   rw [l_u13_1_s, cd, if_neg (by omega), List.drop_eq_nil_of_le (by omega), if_neg (by simp)]
 | k + 1, i, m + 1, h1, h2 => by
   obtain ⟨x, hx⟩ := get_at (xs := l) (i := i) (by omega)
   obtain ⟨j, ih⟩ := hindex_loop N l hl v v2 k (i + 1) m (by omega) (by omega)
   rw [l_u13_1_s, cd, if_pos (by omega), nth_of hx, ob, hd_eq (v, v2) x, cd, w64n (by omega), ih, drop_at hx]
   by_cases e : (v, v2) = x
   · exact ⟨i, by rw [if_pos e, if_pos (by simp [e])]⟩
   · have : (v, v2) ∈ x :: l.drop (i + 1) ↔ (v, v2) ∈ l.drop (i + 1) := by
       rw [List.mem_cons]; exact ⟨fun h1 => h1.resolve_left e, .inr⟩
     refine ⟨j, ?_⟩
     rw [if_neg e]
     by_cases hm : (v, v2) ∈ l.drop (i + 1)
     · rw [if_pos hm, if_pos (this.2 hm)]
     · rw [if_neg hm, if_neg fun q => hm (this.1 q)]
theorem hcontains_eq (N : Nat) (hN : Fu + 2 ≤ N) (l : List Hd) (hl : l.length ≤ 9223372036854775807) (v v2 : Int) : m_u11 N (l, v, v2) = some (decide ((v, v2) ∈ l)) := by
 obtain ⟨N, rfl⟩ : ∃ n, N = n + 2 := ⟨N - 2, by omega⟩
 rw [m_u11_eq, m_u13_eq]
 obtain ⟨j, hj⟩ := hindex_loop N l hl v v2 l.length 0 N (by omega) (by have := Fu_eq; omega)
 rw [show ((0 : Int) = ((0 : Nat) : Int)) from rfl, hj, List.drop_zero]
 by_cases h : (v, v2) ∈ l <;> simp [ob, h]
theorem lead2_loop (N : Nat) (hN : Fu + 3 ≤ N) (l : List Hd) (hl : l.length ≤ 9223372036854775807) (s : List Hd) (hs : s.length ≤ 9223372036854775807) : ∀ (k i m : Nat), i + k = s.length → k < m →
   ∃ j : Nat, l_u6_1 N m (s, ((s.length : Nat) : Int), (i : Int), l) = some (if (s.drop i).any (fun q => decide (q ∈ l)) = true then .inr ((j : Int), l) else .inl l)
 | k, i, 0, h1, h2 => by omega
 | 0, i, m + 1, h1, h2 => by
   refine ⟨0, ?_⟩
   rw [l_u6_1_s, cd, if_neg (by omega), List.drop_eq_nil_of_le (by omega), if_neg (by simp)]
 | k + 1, i, m + 1, h1, h2 => by
   obtain ⟨x, hx⟩ := get_at (xs := s) (i := i) (by omega)
   obtain ⟨j, ih⟩ := lead2_loop N hN l hl s hs k (i + 1) m (by omega) (by omega)
   have h1' : m_u26 N (x.1, x.2, l) = some (decide (x ∈ l), l) := by
     obtain ⟨N, rfl⟩ : ∃ n, N = n + 1 := ⟨N - 1, by have := Fu_eq; omega⟩
     rw [m_u26_eq, hcontains_eq N (by omega) l hl, ob]
   rw [l_u6_1_s, cd, if_pos (by omega), nth_of hx, ob, h1', ob, cd, w64n (by omega), ih, drop_at hx, List.any_cons]
   by_cases h : x ∈ l
   · exact ⟨i, by rw [if_pos h, show decide (x ∈ l) = true by simp [h], Bool.true_or]; rfl⟩
   · exact ⟨j, by rw [if_neg h, show decide (x ∈ l) = false by simp [h], Bool.false_or]⟩
theorem lead2_eq (N : Nat) (hN : Fu + 5 ≤ N) (l : List Hd) (hl : l.length ≤ 9223372036854775807) (s : List Hd) (hs : s.length ≤ 9223372036854775807) : m_u2 N (s, l) = some (s.any (fun q => decide (q ∈ l)), l) := by
 obtain ⟨N, rfl⟩ : ∃ n, N = n + 2 := ⟨N - 2, by omega⟩
 rw [m_u2_eq, m_u6_eq]
 obtain ⟨j, hj⟩ := lead2_loop N (by omega) l hl s hs s.length 0 N (by omega) (by have := Fu_eq; omega)
 rw [show ((0 : Int) = ((0 : Nat) : Int)) from rfl, hj, List.drop_zero]
 cases h : s.any fun q => decide (q ∈ l) with
 | true => simp [ob]
 | false => simp [ob]
theorem leads_loop (N : Nat) (hN : Fu + 5 ≤ N) (l : List Hd) (hl : l.length ≤ 9223372036854775807) (ns : List Nd) (hns : LN ns) : ∀ (k i m : Nat), i + k = ns.length → k < m →
   l_u41_1 N m (ns, ((ns.length : Nat) : Int), (i : Int), l) = some (if leadsFrom l i (ns.drop i) = true then .inr true else .inl ())
 | k, i, 0, h1, h2 => by omega
 | 0, i, m + 1, h1, h2 => by
   rw [l_u41_1_s, cd, if_neg (by omega), List.drop_eq_nil_of_le (by omega)]; simp [leadsFrom]
 | k + 1, i, m + 1, h1, h2 => by
   obtain ⟨x, hx⟩ := get_at (xs := ns) (i := i) (by omega)
   have ih := leads_loop N hN l hl ns hns k (i + 1) m (by omega) (by omega)
   have hil := hns.1
   rw [l_u41_1_s, cd, if_pos (by omega), nth_of hx, ob, lead1_eq N (by omega) l hl, ob, cb, lead2_eq N hN l hl _ (hns.2 x (List.mem_of_getElem? hx)), ob, w64n (by omega), ih, drop_at hx]
   simp only [leadsFrom]
   rcases Bool.eq_false_or_eq_true (l.any fun h => decide (h.1 = (i : Int))) with hA | hA
   · simp only [hA]; simp
   · rcases Bool.eq_false_or_eq_true (x.2.2.any fun q => decide (q ∈ l)) with hB | hB
     · simp only [hA, hB]; simp
     · simp only [hA, hB]; simp
theorem leads_eq (N : Nat) (hN : Fu + 6 ≤ N) (g f : List Int) (l : List Hd) (hl : l.length ≤ 9223372036854775807) (ns : List Nd) (hns : LN ns) : m_u41 N (g, f, ns, l) = some (leadsFrom l 0 ns) := by
 obtain ⟨N, rfl⟩ : ∃ n, N = n + 1 := ⟨N - 1, by omega⟩
 rw [m_u41_eq, show ((0 : Int) = ((0 : Nat) : Int)) from rfl, leads_loop N (by omega) l hl ns hns ns.length 0 N (by omega) (by have := Fu_eq; have := hns.1; omega), ob, List.drop_zero]
 cases leadsFrom l 0 ns <;> simp
def giveL : List Hd → List Int → List Int → List Nd → List Int × List Int × List Nd
 | [], g, f, ns => (g, f, ns)
 | h :: l, g, f, ns => giveL l (giveP g f h.1 h.2).2.1 (giveP g f h.1 h.2).2.2 (ns.set h.1.toNat (0, (0, [])))
theorem nclone_eq (N : Nat) (hN : Fu + 1 ≤ N) (ns : List Nd) (hm : ns.length ≤ 100000000000) : m_u14 N ns = some ns := by
 obtain ⟨N, rfl⟩ : ∃ n, N = n + 1 := ⟨N - 1, by omega⟩
 rw [m_u14_eq, app_of (by omega) (by simpa using hm), ob]
 cases ns with
 | nil => simp [isNilB, dem_iff]
 | cons x ns => simp [isNilB]
theorem nget {ns : List Nd} {h : Hd} (h0 : 0 ≤ h.1) (h1 : h.1 < ns.length) : ∃ x, nthI ns h.1 = some x := by
 obtain ⟨x, _, hx⟩ := nth_ex h0 h1
 exact ⟨x, hx⟩
theorem give_loop (N : Nat) (hN : Fu + 4 ≤ N) : ∀ (its : List (Int × Hd)) (g f : List Int) (ns : List Nd), g.length ≤ 1000 → f.length + its.length ≤ 100000 → (∀ q ∈ its, 0 ≤ q.2.1 ∧ q.2.1 < ns.length) →
   l_u51_1 N its (g, f, ns) = some (giveL (its.map (·.2)) g f ns)
 | [], g, f, ns, hg, hf, h => by rw [l_u51_1_z]; rfl
 | (i, c, x) :: its, g, f, ns, hg, hf, h => by
   obtain ⟨c0, c1⟩ := h (i, c, x) (by simp)
   obtain ⟨y, hy⟩ := nget (ns := ns) (h := (c, x)) c0 c1
   obtain ⟨l1, l2⟩ := giveP_len g f c x
   simp only [List.length_cons] at hf
   rw [l_u51_1_s, give_eq N hN g f c x (by omega) (by omega), ob, hy, ob, ob, give_loop N hN its _ _ _ (by omega) (by omega) fun q hq => by simpa using h q (by simp [hq])]
   rfl
theorem bwI_snd {α : Type} (xs : List α) : (bwI xs).map (·.2) = xs.reverse := by
 unfold bwI
 rw [List.map_map, List.map_reverse]
 congr 1
 rw [show ((fun x : Int × α => x.2) ∘ fun p : Nat × α => ((p.1 : Int), p.2)) = Prod.snd from rfl, List.map_snd_zip]
 simp
def sgiveS (g f : List Int) (ns : List Nd) (h : Hd) : Int × List Int × List Int × List Nd :=
 if (readS g f ns h).1 ≠ 0 then ((readS g f ns h).1, g, f, ns) else if leadsFrom (readS g f ns h).2.2.2.2 0 ns = true then (5, g, f, ns) else (0, giveL (readS g f ns h).2.2.2.2.reverse g f ns)
theorem readS_ok {g f : List Int} {ns : List Nd} {h : Hd} (h0 : (readS g f ns h).1 = 0) : rightS g f ns = true ∧ goodB g f h.1 h.2 = true ∧ (tripOf g ns h).2 = h ∧ towS ns (tripOf g ns h).1 ∧ (readS g f ns h).2.2.2.2 = (tripOf g ns h).1 := by
 unfold readS at h0 ⊢
 by_cases h1 : rightS g f ns = false
 · rw [if_pos h1] at h0; cases h0
 rw [if_neg h1] at h0 ⊢
 by_cases h2 : goodB g f h.1 h.2 = false
 · rw [if_pos h2] at h0; cases h0
 rw [if_neg h2] at h0 ⊢
 by_cases h3 : (tripOf g ns h).2 = h ∧ towS ns (tripOf g ns h).1
 · rw [if_pos h3]; exact ⟨by simpa using h1, by simpa using h2, h3.1, h3.2, rfl⟩
 · rw [if_neg h3] at h0; cases h0
theorem sgive_eq (N : Nat) (hN : Fu + 10 ≤ N) (g f : List Int) (hg : g.length ≤ 9223372036854775807) (hm : f.length ≤ 9223372036854775807) (ns : List Nd) (hl : LN ns) (h h2 : Int) : m_u51 N (g, f, ns, h, h2) = some (sgiveS g f ns (h, h2)) := by
 obtain ⟨N, rfl⟩ : ∃ n, N = n + 1 := ⟨N - 1, by omega⟩
 rw [m_u51_eq, read_eq N (by omega) g f hg hm ns hl, ob, cdn]
 unfold sgiveS
 by_cases h0 : (readS g f ns (h, h2)).1 = 0
 · obtain ⟨hr, hgd, _, _, hmet⟩ := readS_ok h0
   obtain ⟨ht, _, hlen⟩ := tripOf_ok hr hgd
   obtain ⟨g1, f1, _⟩ := right_len (rightS_iff.1 hr).1
   have hnl := (rightS_iff.1 hr).2.1
   rw [if_pos h0, if_neg (by simpa using h0), hmet, leads_eq N (by omega) g f _ (by omega) ns hl, ob, cb]
   by_cases hle : leadsFrom (tripOf g ns (h, h2)).1 0 ns = true
   · rw [if_pos hle, if_pos hle]
   · have hb : m_u10 N (tripOf g ns (h, h2)).1 = some (tripOf g ns (h, h2)).1 := by
       obtain ⟨N, rfl⟩ : ∃ n, N = n + 1 := ⟨N - 1, by omega⟩
       exact m_u10_eq N _
     rw [if_neg hle, if_neg hle, nclone_eq N (by omega) ns (by omega), ob, hb, ob, give_loop N (by omega) _ g f ns (by omega) (by rw [bwI_len]; omega) fun q hq => ?_, ob, bwI_snd]
     have hq2 : q.2 ∈ (tripOf g ns (h, h2)).1 := by
       have : q.2 ∈ (bwI (tripOf g ns (h, h2)).1).map (·.2) := List.mem_map.2 ⟨q, hq, rfl⟩
       rw [bwI_snd] at this; simpa using this
     obtain ⟨_, c0, c1, _⟩ := goodB_iff.1 (ht.good _ hq2)
     exact ⟨c0, by omega⟩
 · rw [if_neg h0, if_pos h0]
end Go.Proofs.Ytdahghkmejnlgaa
end
noncomputable section
set_option linter.unusedVariables false
namespace Go.Proofs.Ytdahghkmejnlgaa
open Go Go.RowKit
noncomputable section
structure Fc (α : Type) where
 f : {R : Type} → α → (α → R) → R
 ok : ∀ {R : Type} (x : α) (k : α → R), f x k = k x
def fN {R : Type} (n : Nat) (k : Nat → R) : R := Nat.rec (motive := fun _ => R) (k 0) (fun m _ => k (Nat.succ m)) n
theorem fN_ok {R : Type} (n : Nat) (k : Nat → R) : fN n k = k n := by cases n <;> rfl
def fcI : Fc Int := ⟨fun {R} x k => Int.rec (motive := fun _ => R) (fun n => fN n fun m => k (Int.ofNat m)) (fun n => fN n fun m => k (Int.negSucc m)) x, fun x k => by
 cases x with
 | ofNat n => exact fN_ok n _
 | negSucc n => exact fN_ok n _⟩
def fcU : Fc Unit := ⟨fun x k => k (), fun x k => rfl⟩
def fL {α : Type} (a : Fc α) {R : Type} (xs : List α) : (List α → R) → R := List.rec (motive := fun _ => (List α → R) → R) (fun k => k []) (fun x _ ih k => a.f x fun y => ih fun ys => k (y :: ys)) xs
theorem fL_ok {α : Type} (a : Fc α) {R : Type} : ∀ (xs : List α) (k : List α → R), fL a xs k = k xs
 | [], k => rfl
 | x :: xs, k => by
   show a.f x (fun y => fL a xs fun ys => k (y :: ys)) = _
   rw [a.ok, fL_ok a xs]
def fcL {α : Type} (a : Fc α) : Fc (List α) := ⟨fun xs k => fL a xs k, fun xs k => fL_ok a xs k⟩
def fcP {α β : Type} (a : Fc α) (b : Fc β) : Fc (α × β) := ⟨fun {R} p k => Prod.rec (motive := fun _ => R) (fun x y => a.f x fun x' => b.f y fun y' => k (x', y')) p, fun p k => by
 obtain ⟨x, y⟩ := p
 show a.f x (fun x' => b.f y fun y' => k (x', y')) = _
 rw [a.ok, b.ok]⟩
def demD {R : Type} [DecidableEq R] (f : Bool → Option R) : Option R := match f true, f false with
 | some a, some b => if a = b then some a else none
 | _, _ => none
theorem dem_D {R : Type} [DecidableEq R] (f : Bool → Option R) : dem f = demD f := by
 rw [dem_eq]
 unfold demG demD
 cases f true with
 | none => rfl
 | some a =>
   cases f false with
   | none => rfl
   | some b =>
     simp only
     by_cases h : a = b
     · rw [if_pos h, if_pos h]
     · rw [if_neg h, if_neg h]
end
end Go.Proofs.Ytdahghkmejnlgaa
end
noncomputable section
set_option linter.unusedVariables false
set_option linter.unusedSimpArgs false
set_option maxRecDepth 100000
namespace Go.Proofs.Ytdahghkmejnlgaa
open Go Go.RowKit
noncomputable section
def tl_u33_1 (N : Nat) : Nat → (List Int) × Int × Int → Option ((Unit) ⊕ (Int))
 | 0, _ => none
 | m + 1, v => (fcP (fcL fcI) (fcP fcI fcI)).f v fun (l, token, i) => cond (decide (i < (((List.length l) : Nat) : Int)))
  (obind (nthI l i) fun z1 =>
   cond (decide (z1 = token))
    (some (.inr i))
    ((tl_u33_1 N m (l, (token, (IntKind.wrap .i64 (i + (1 : Int))))))))
  (some (.inl ()))
theorem q_l_u33_1 (N : Nat) : ∀ (m : Nat) (v : (List Int) × Int × Int), l_u33_1 N m v = tl_u33_1 N m v
 | 0, _ => by kernel_rfl
 | m + 1, (l, token, i) => by
   rw [l_u33_1_s, tl_u33_1, (fcP (fcL fcI) (fcP fcI fcI)).ok]
   all_goals first | rfl | (simp only [bitI_eq, dem_D, q_l_u33_1 N m]; done) | (simp only [bitI_eq, dem_D, q_l_u33_1 N m]; rfl)
def t_u33 : Nat → (List Int) × Int → Option (Int)
 | 0, _ => none
 | N + 1, v => (fcP (fcL fcI) fcI).f v fun (l, token) => obind (tl_u33_1 N N (l, (token, (0 : Int)))) fun z1 =>
 (match z1 with
 | .inl zy2 => some (-(1 : Int))
 | .inr zy3 => some zy3)
theorem q_m_u33 : ∀ (N : Nat) (v : (List Int) × Int), m_u33 N v = t_u33 N v
 | 0, _ => by kernel_rfl
 | N + 1, (l, token) => by
   rw [m_u33_eq, t_u33, (fcP (fcL fcI) fcI).ok]
   all_goals first | rfl | (simp only [q_l_u33_1, bitI_eq, dem_D]; done) | (simp only [q_l_u33_1, bitI_eq, dem_D]; rfl)
def tl_u34_1 (N : Nat) : Nat → (List Int) × Int → Option ((Unit) ⊕ (Bool))
 | 0, _ => none
 | m + 1, v => (fcP (fcL fcI) fcI).f v fun (l, i) => cond (decide (i < (((List.length l) : Nat) : Int)))
  (obind (nthI l i) fun z1 =>
   cond (decide (z1 < (0 : Int)))
    (some (.inr false))
    (obind (nthI l i) fun z2 =>
     cond (decide ((10000 : Int) < z2))
      (some (.inr false))
      (obind (subI l (0 : Int) i) fun z3 =>
       obind (nthI l i) fun z4 =>
       obind (t_u33 N (z3, z4)) fun z5 =>
       cond (decide ((0 : Int) ≤ z5))
        (some (.inr false))
        ((tl_u34_1 N m (l, (IntKind.wrap .i64 (i + (1 : Int)))))))))
  (some (.inl ()))
theorem q_l_u34_1 (N : Nat) : ∀ (m : Nat) (v : (List Int) × Int), l_u34_1 N m v = tl_u34_1 N m v
 | 0, _ => by kernel_rfl
 | m + 1, (l, i) => by
   rw [l_u34_1_s, tl_u34_1, (fcP (fcL fcI) fcI).ok]
   all_goals first | rfl | (simp only [q_m_u33, bitI_eq, dem_D, q_l_u34_1 N m]; done) | (simp only [q_m_u33, bitI_eq, dem_D, q_l_u34_1 N m]; rfl)
def t_u34 : Nat → (List Int) → Option (Bool)
 | 0, _ => none
 | N + 1, v => (fcL fcI).f v fun (l) => cond (decide ((1000 : Int) < (((List.length l) : Nat) : Int)))
  (some false)
  (obind (tl_u34_1 N N (l, (0 : Int))) fun z1 =>
   (match z1 with
   | .inl zy2 => some true
   | .inr zy3 => some zy3))
theorem q_m_u34 : ∀ (N : Nat) (v : (List Int)), m_u34 N v = t_u34 N v
 | 0, _ => by kernel_rfl
 | N + 1, (l) => by
   rw [m_u34_eq, t_u34, (fcL fcI).ok]
   all_goals first | rfl | (simp only [q_l_u34_1, bitI_eq, dem_D]; done) | (simp only [q_l_u34_1, bitI_eq, dem_D]; rfl)
def tl_u35_4 (N : Nat) : Nat → (List Int) × Int × Int × Int × Int × (List Int) × (List Int) × (List Int) × (List (List Int)) → Option ((List Int) × Int × Int × Int × Int × (List Int) × (List Int) × (List Int) × (List (List Int)))
 | 0, _ => none
 | m + 1, v => (fcP (fcL fcI) (fcP fcI (fcP fcI (fcP fcI (fcP fcI (fcP (fcL fcI) (fcP (fcL fcI) (fcP (fcL fcI) (fcL (fcL fcI)))))))))).f v fun (heights, n, i, h, k, l, v902, v903, v905) => obind (remI (IntKind.wrap .i64 (i + k)) n) fun z1 =>
 obind (nthI heights z1) fun z2 =>
 cond (decide (z2 ≤ h))
  ((tl_u35_4 N m (heights, (n, (i, (h, ((IntKind.wrap .i64 (k + (1 : Int))), (l, (v902, (v903, v905))))))))))
  (some (heights, (n, (i, (h, (k, (l, (v902, (v903, v905)))))))))
theorem q_l_u35_4 (N : Nat) : ∀ (m : Nat) (v : (List Int) × Int × Int × Int × Int × (List Int) × (List Int) × (List Int) × (List (List Int))), l_u35_4 N m v = tl_u35_4 N m v
 | 0, _ => by kernel_rfl
 | m + 1, (heights, n, i, h, k, l, v902, v903, v905) => by
   rw [l_u35_4_s, tl_u35_4, (fcP (fcL fcI) (fcP fcI (fcP fcI (fcP fcI (fcP fcI (fcP (fcL fcI) (fcP (fcL fcI) (fcP (fcL fcI) (fcL (fcL fcI)))))))))).ok]
   all_goals first | rfl | (simp only [bitI_eq, dem_D, q_l_u35_4 N m]; done) | (simp only [bitI_eq, dem_D, q_l_u35_4 N m]; rfl)
def tl_u35_3 (N : Nat) : Nat → (List Int) × Int × Int × Int × (List Int) × (List Int) × (List Int) × (List (List Int)) → Option ((List Int) × Int × Int × (List Int) × (List Int) × (List Int) × (List (List Int)))
 | 0, _ => none
 | m + 1, v => (fcP (fcL fcI) (fcP fcI (fcP fcI (fcP fcI (fcP (fcL fcI) (fcP (fcL fcI) (fcP (fcL fcI) (fcL (fcL fcI))))))))).f v fun (heights, n, i, h, l, v902, v903, v905) => obind (nthI heights i) fun z1 =>
 cond (decide (h < z1))
  (obind (tl_u35_4 N N (heights, (n, (i, (h, ((1 : Int), (l, (v902, (v903, v905))))))))) fun z2 =>
   obind (remI (IntKind.wrap .i64 (z2.2.2.1 + z2.2.2.2.2.1)) z2.2.1) fun z3 =>
   obind (appI (8 : Nat) z2.2.2.2.2.2.1 [z3]) fun z4 =>
   (tl_u35_3 N m (z2.1, (z2.2.1, (z2.2.2.1, ((IntKind.wrap .i64 (z2.2.2.2.1 + (1 : Int))), (z4, (z2.2.2.2.2.2.2.1, (z2.2.2.2.2.2.2.2.1, z2.2.2.2.2.2.2.2.2)))))))))
  (some (heights, (n, (i, (l, (v902, (v903, v905)))))))
theorem q_l_u35_3 (N : Nat) : ∀ (m : Nat) (v : (List Int) × Int × Int × Int × (List Int) × (List Int) × (List Int) × (List (List Int))), l_u35_3 N m v = tl_u35_3 N m v
 | 0, _ => by kernel_rfl
 | m + 1, (heights, n, i, h, l, v902, v903, v905) => by
   rw [l_u35_3_s, tl_u35_3, (fcP (fcL fcI) (fcP fcI (fcP fcI (fcP fcI (fcP (fcL fcI) (fcP (fcL fcI) (fcP (fcL fcI) (fcL (fcL fcI))))))))).ok]
   all_goals first | rfl | (simp only [q_l_u35_4, bitI_eq, dem_D, q_l_u35_3 N m]; done) | (simp only [q_l_u35_4, bitI_eq, dem_D, q_l_u35_3 N m]; rfl)
def tl_u35_2 (N : Nat) : Nat → (List Int) × Int × Int × (List Int) × (List Int) × (List (List Int)) → Option ((List Int) × (List Int) × (List (List Int)))
 | 0, _ => none
 | m + 1, v => (fcP (fcL fcI) (fcP fcI (fcP fcI (fcP (fcL fcI) (fcP (fcL fcI) (fcL (fcL fcI))))))).f v fun (heights, n, i, v902, v903, v904) => cond (decide (i < n))
  (obind (tl_u35_3 N N (heights, (n, (i, ((0 : Int), ([], (v902, (v903, v904)))))))) fun z1 =>
   obind (appI (24 : Nat) z1.2.2.2.2.2.2 [z1.2.2.2.1]) fun z2 =>
   (tl_u35_2 N m (z1.1, (z1.2.1, ((IntKind.wrap .i64 (z1.2.2.1 + (1 : Int))), (z1.2.2.2.2.1, (z1.2.2.2.2.2.1, z2)))))))
  (some (v902, (v903, v904)))
theorem q_l_u35_2 (N : Nat) : ∀ (m : Nat) (v : (List Int) × Int × Int × (List Int) × (List Int) × (List (List Int))), l_u35_2 N m v = tl_u35_2 N m v
 | 0, _ => by kernel_rfl
 | m + 1, (heights, n, i, v902, v903, v904) => by
   rw [l_u35_2_s, tl_u35_2, (fcP (fcL fcI) (fcP fcI (fcP fcI (fcP (fcL fcI) (fcP (fcL fcI) (fcL (fcL fcI))))))).ok]
   all_goals first | rfl | (simp only [q_l_u35_3, bitI_eq, dem_D, q_l_u35_2 N m]; done) | (simp only [q_l_u35_3, bitI_eq, dem_D, q_l_u35_2 N m]; rfl)
def tl_u35_1 (N : Nat) : Nat → (List Int) × (List Int) × Int × Int → Option (((List Int) × (List Int) × Int) ⊕ (Int))
 | 0, _ => none
 | m + 1, v => (fcP (fcL fcI) (fcP (fcL fcI) (fcP fcI fcI))).f v fun (tokens, heights, n, i) => cond (decide (i < n))
  (obind (nthI heights i) fun z1 =>
   cond (decide (z1 < (1 : Int)))
    (some (.inr (1 : Int)))
    (obind (nthI heights i) fun z2 =>
     cond (decide ((8 : Int) < z2))
      (some (.inr (1 : Int)))
      ((tl_u35_1 N m (tokens, (heights, (n, (IntKind.wrap .i64 (i + (1 : Int))))))))))
  (some (.inl (tokens, (heights, n))))
theorem q_l_u35_1 (N : Nat) : ∀ (m : Nat) (v : (List Int) × (List Int) × Int × Int), l_u35_1 N m v = tl_u35_1 N m v
 | 0, _ => by kernel_rfl
 | m + 1, (tokens, heights, n, i) => by
   rw [l_u35_1_s, tl_u35_1, (fcP (fcL fcI) (fcP (fcL fcI) (fcP fcI fcI))).ok]
   all_goals first | rfl | (simp only [bitI_eq, dem_D, q_l_u35_1 N m]; done) | (simp only [bitI_eq, dem_D, q_l_u35_1 N m]; rfl)
def t_u35 : Nat → (List Int) × (List Int) → Option (Int × (List Int) × (List Int) × (List (List Int)))
 | 0, _ => none
 | N + 1, v => (fcP (fcL fcI) (fcL fcI)).f v fun (tokens, heights) => obind (t_u34 N tokens) fun z1 =>
 cond (!z1)
  (some ((1 : Int), ([], ([], []))))
  (cond (decide ((((List.length tokens) : Nat) : Int) = (0 : Int)))
    (some ((1 : Int), ([], ([], []))))
    (cond (!(decide ((((List.length heights) : Nat) : Int) = (((List.length tokens) : Nat) : Int))))
      (some ((1 : Int), ([], ([], []))))
      (obind (tl_u35_1 N N (tokens, (heights, ((((List.length tokens) : Nat) : Int), (0 : Int))))) fun z2 =>
       (match z2 with
       | .inl zy3 => obind (appI (8 : Nat) [] zy3.1) fun z4 =>
         obind (appI (8 : Nat) [] zy3.2.1) fun z5 =>
         obind (tl_u35_2 N N (zy3.2.1, (zy3.2.2, ((0 : Int), (z4, (z5, [])))))) fun z6 =>
         some ((0 : Int), (z6.1, (z6.2.1, z6.2.2)))
       | .inr zy7 => some (zy7, ([], ([], [])))))))
theorem q_m_u35 : ∀ (N : Nat) (v : (List Int) × (List Int)), m_u35 N v = t_u35 N v
 | 0, _ => by kernel_rfl
 | N + 1, (tokens, heights) => by
   rw [m_u35_eq, t_u35, (fcP (fcL fcI) (fcL fcI)).ok]
   all_goals first | rfl | (simp only [q_l_u35_1, q_l_u35_2, q_m_u34, bitI_eq, dem_D]; done) | (simp only [q_l_u35_1, q_l_u35_2, q_m_u34, bitI_eq, dem_D]; rfl)
def tl_u59_1 (N : Nat) : Nat → Int × Int × Int × (List Int) × (List Int) → Option ((List Int) × (List Int))
 | 0, _ => none
 | m + 1, v => (fcP fcI (fcP fcI (fcP fcI (fcP (fcL fcI) (fcL fcI))))).f v fun (n, v16, v17, v902, v903) => cond (decide (v17 < v16))
  (obind (appI (8 : Nat) v903 [(IntKind.wrap .i64 ((IntKind.wrap .i64 (n - (1 : Int))) - v17))]) fun z1 =>
   (tl_u59_1 N m (n, (v16, ((IntKind.wrap .i64 (v17 + (1 : Int))), (v902, z1))))))
  (some (v902, v903))
theorem q_l_u59_1 (N : Nat) : ∀ (m : Nat) (v : Int × Int × Int × (List Int) × (List Int)), l_u59_1 N m v = tl_u59_1 N m v
 | 0, _ => by kernel_rfl
 | m + 1, (n, v16, v17, v902, v903) => by
   rw [l_u59_1_s, tl_u59_1, (fcP fcI (fcP fcI (fcP fcI (fcP (fcL fcI) (fcL fcI))))).ok]
   all_goals first | rfl | (simp only [bitI_eq, dem_D, q_l_u59_1 N m]; done) | (simp only [bitI_eq, dem_D, q_l_u59_1 N m]; rfl)
def t_u59 : Nat → Int → Option (Int × (List Int) × (List Int))
 | 0, _ => none
 | N + 1, v => fcI.f v fun (n) => cond (decide (n < (1 : Int)))
  (some ((1 : Int), ([], [])))
  (cond (decide ((1000 : Int) < n))
    (some ((1 : Int), ([], [])))
    (obind (makI n (8 : Nat)) fun z1 =>
     obind (tl_u59_1 N N (n, (n, ((0 : Int), ((List.replicate z1 (0 : Int)), []))))) fun z2 =>
     some ((0 : Int), (z2.1, z2.2))))
theorem q_m_u59 : ∀ (N : Nat) (v : Int), m_u59 N v = t_u59 N v
 | 0, _ => by kernel_rfl
 | N + 1, (n) => by
   rw [m_u59_eq, t_u59, fcI.ok]
   all_goals first | rfl | (simp only [q_l_u59_1, bitI_eq, dem_D]; done) | (simp only [q_l_u59_1, bitI_eq, dem_D]; rfl)
def t_u52 : Nat → Int → Option (Int × (List Int) × (List Int) × (List (Int × (Int × (List (Int × Int))))))
 | 0, _ => none
 | N + 1, v => fcI.f v fun (n) => obind (t_u59 N n) fun z1 =>
 cond (!(decide (z1.1 = (0 : Int))))
  (some (z1.1, ([], ([], []))))
  (obind (makI n (40 : Nat)) fun z2 =>
   some ((0 : Int), (z1.2.1, (z1.2.2, (List.replicate z2 ((0 : Int), ((0 : Int), [])))))))
theorem q_m_u52 : ∀ (N : Nat) (v : Int), m_u52 N v = t_u52 N v
 | 0, _ => by kernel_rfl
 | N + 1, (n) => by
   rw [m_u52_eq, t_u52, fcI.ok]
   all_goals first | rfl | (simp only [q_m_u59, bitI_eq, dem_D]; done) | (simp only [q_m_u59, bitI_eq, dem_D]; rfl)
def tl_u23_1 (N : Nat) : Nat → (List Int) × Int × Int → Option (Int)
 | 0, _ => none
 | m + 1, v => (fcP (fcL fcI) (fcP fcI fcI)).f v fun (x, v3, i) => cond (decide (i < (((List.length x) : Nat) : Int)))
  (obind (nthI x i) fun z1 =>
   (tl_u23_1 N m (x, ((if (z1 < v3) then z1 else v3), (IntKind.wrap .i64 (i + (1 : Int)))))))
  (some v3)
theorem q_l_u23_1 (N : Nat) : ∀ (m : Nat) (v : (List Int) × Int × Int), l_u23_1 N m v = tl_u23_1 N m v
 | 0, _ => by kernel_rfl
 | m + 1, (x, v3, i) => by
   rw [l_u23_1_s, tl_u23_1, (fcP (fcL fcI) (fcP fcI fcI)).ok]
   all_goals first | rfl | (simp only [bitI_eq, dem_D, q_l_u23_1 N m]; done) | (simp only [bitI_eq, dem_D, q_l_u23_1 N m]; rfl)
def t_u23 : Nat → (List Int) → Option (Int)
 | 0, _ => none
 | N + 1, v => (fcL fcI).f v fun (x) => cond (decide ((((List.length x) : Nat) : Int) < (1 : Int)))
  (none)
  (obind (nthI x (0 : Int)) fun z1 =>
   obind (tl_u23_1 N N (x, (z1, (1 : Int)))) fun z2 =>
   some z2)
theorem q_m_u23 : ∀ (N : Nat) (v : (List Int)), m_u23 N v = t_u23 N v
 | 0, _ => by kernel_rfl
 | N + 1, (x) => by
   rw [m_u23_eq, t_u23, (fcL fcI).ok]
   all_goals first | rfl | (simp only [q_l_u23_1, bitI_eq, dem_D]; done) | (simp only [q_l_u23_1, bitI_eq, dem_D]; rfl)
def tl_u22_1 (N : Nat) : Nat → (List Int) × Int × Int → Option (Int)
 | 0, _ => none
 | m + 1, v => (fcP (fcL fcI) (fcP fcI fcI)).f v fun (x, v3, i) => cond (decide (i < (((List.length x) : Nat) : Int)))
  (obind (nthI x i) fun z1 =>
   (tl_u22_1 N m (x, ((if (z1 > v3) then z1 else v3), (IntKind.wrap .i64 (i + (1 : Int)))))))
  (some v3)
theorem q_l_u22_1 (N : Nat) : ∀ (m : Nat) (v : (List Int) × Int × Int), l_u22_1 N m v = tl_u22_1 N m v
 | 0, _ => by kernel_rfl
 | m + 1, (x, v3, i) => by
   rw [l_u22_1_s, tl_u22_1, (fcP (fcL fcI) (fcP fcI fcI)).ok]
   all_goals first | rfl | (simp only [bitI_eq, dem_D, q_l_u22_1 N m]; done) | (simp only [bitI_eq, dem_D, q_l_u22_1 N m]; rfl)
def t_u22 : Nat → (List Int) → Option (Int)
 | 0, _ => none
 | N + 1, v => (fcL fcI).f v fun (x) => cond (decide ((((List.length x) : Nat) : Int) < (1 : Int)))
  (none)
  (obind (nthI x (0 : Int)) fun z1 =>
   obind (tl_u22_1 N N (x, (z1, (1 : Int)))) fun z2 =>
   some z2)
theorem q_m_u22 : ∀ (N : Nat) (v : (List Int)), m_u22 N v = t_u22 N v
 | 0, _ => by kernel_rfl
 | N + 1, (x) => by
   rw [m_u22_eq, t_u22, (fcL fcI).ok]
   all_goals first | rfl | (simp only [q_l_u22_1, bitI_eq, dem_D]; done) | (simp only [q_l_u22_1, bitI_eq, dem_D]; rfl)
def tl_u45_1 (N : Nat) : Nat → Int × (List Int) × Int × Int × (List (Int × Int)) → Option ((Unit) ⊕ (Bool))
 | 0, _ => none
 | m + 1, v => (fcP fcI (fcP (fcL fcI) (fcP fcI (fcP fcI (fcL (fcP fcI fcI)))))).f v fun (n, v30, v31, v32, met) => cond (decide (v32 < v31))
  (obind (nthI v30 v32) fun z1 =>
   cond (decide (z1 < (0 : Int)))
    (some (.inr false))
    (cond (decide (n ≤ z1))
      (some (.inr false))
      (cond (decide ((1 : Int) < (Option.getD (mget (.i .i64) (mput (.i .i64) met z1 (IntKind.wrap .i64 ((Option.getD (mget (.i .i64) met z1) (0 : Int)) + (1 : Int)))) z1) (0 : Int))))
        (some (.inr false))
        ((tl_u45_1 N m (n, (v30, (v31, ((IntKind.wrap .i64 (v32 + (1 : Int))), (mput (.i .i64) met z1 (IntKind.wrap .i64 ((Option.getD (mget (.i .i64) met z1) (0 : Int)) + (1 : Int)))))))))))))
  (some (.inl ()))
theorem q_l_u45_1 (N : Nat) : ∀ (m : Nat) (v : Int × (List Int) × Int × Int × (List (Int × Int))), l_u45_1 N m v = tl_u45_1 N m v
 | 0, _ => by kernel_rfl
 | m + 1, (n, v30, v31, v32, met) => by
   rw [l_u45_1_s, tl_u45_1, (fcP fcI (fcP (fcL fcI) (fcP fcI (fcP fcI (fcL (fcP fcI fcI)))))).ok]
   all_goals first | rfl | (simp only [bitI_eq, dem_D, q_l_u45_1 N m]; done) | (simp only [bitI_eq, dem_D, q_l_u45_1 N m]; rfl)
def t_u45 : Nat → (List Int) × (List Int) → Option (Bool)
 | 0, _ => none
 | N + 1, v => (fcP (fcL fcI) (fcL fcI)).f v fun (p, p2) => cond (decide ((((List.length p) : Nat) : Int) = (0 : Int)))
  (some false)
  (cond (decide ((1000 : Int) < (((List.length p) : Nat) : Int)))
    (some false)
    (obind (t_u23 N p) fun z1 =>
     cond (decide (z1 < (0 : Int)))
      (some false)
      (obind (t_u22 N p) fun z2 =>
       cond (decide ((1073741824 : Int) < z2))
        (some false)
        (obind (tl_u45_1 N N ((((List.length p) : Nat) : Int), (p2, ((((List.length p2) : Nat) : Int), ((0 : Int), []))))) fun z3 =>
         (match z3 with
         | .inl zy4 => some true
         | .inr zy5 => some zy5)))))
theorem q_m_u45 : ∀ (N : Nat) (v : (List Int) × (List Int)), m_u45 N v = t_u45 N v
 | 0, _ => by kernel_rfl
 | N + 1, (p, p2) => by
   rw [m_u45_eq, t_u45, (fcP (fcL fcI) (fcL fcI)).ok]
   all_goals first | rfl | (simp only [q_l_u45_1, q_m_u22, q_m_u23, bitI_eq, dem_D]; done) | (simp only [q_l_u45_1, q_m_u22, q_m_u23, bitI_eq, dem_D]; rfl)
def tl_u20_1 (N : Nat) : Nat → (List Int) × Int × Int × Int → Option ((Unit) ⊕ (Int))
 | 0, _ => none
 | m + 1, v => (fcP (fcL fcI) (fcP fcI (fcP fcI fcI))).f v fun (s, v, v7, v8) => cond (decide (v8 < v7))
  (obind (nthI s v8) fun z1 =>
   cond (decide (v = z1))
    (some (.inr v8))
    ((tl_u20_1 N m (s, (v, (v7, (IntKind.wrap .i64 (v8 + (1 : Int)))))))))
  (some (.inl ()))
theorem q_l_u20_1 (N : Nat) : ∀ (m : Nat) (v : (List Int) × Int × Int × Int), l_u20_1 N m v = tl_u20_1 N m v
 | 0, _ => by kernel_rfl
 | m + 1, (s, v, v7, v8) => by
   rw [l_u20_1_s, tl_u20_1, (fcP (fcL fcI) (fcP fcI (fcP fcI fcI))).ok]
   all_goals first | rfl | (simp only [bitI_eq, dem_D, q_l_u20_1 N m]; done) | (simp only [bitI_eq, dem_D, q_l_u20_1 N m]; rfl)
def t_u20 : Nat → (List Int) × Int → Option (Int)
 | 0, _ => none
 | N + 1, v => (fcP (fcL fcI) fcI).f v fun (s, v) => obind (tl_u20_1 N N (s, (v, ((((List.length s) : Nat) : Int), (0 : Int))))) fun z1 =>
 (match z1 with
 | .inl zy2 => some (-(1 : Int))
 | .inr zy3 => some zy3)
theorem q_m_u20 : ∀ (N : Nat) (v : (List Int) × Int), m_u20 N v = t_u20 N v
 | 0, _ => by kernel_rfl
 | N + 1, (s, v) => by
   rw [m_u20_eq, t_u20, (fcP (fcL fcI) fcI).ok]
   all_goals first | rfl | (simp only [q_l_u20_1, bitI_eq, dem_D]; done) | (simp only [q_l_u20_1, bitI_eq, dem_D]; rfl)
def t_u17 : Nat → (List Int) × Int → Option (Bool)
 | 0, _ => none
 | N + 1, v => (fcP (fcL fcI) fcI).f v fun (s, v) => obind (t_u20 N (s, v)) fun z1 =>
 some (decide ((0 : Int) ≤ z1))
theorem q_m_u17 : ∀ (N : Nat) (v : (List Int) × Int), m_u17 N v = t_u17 N v
 | 0, _ => by kernel_rfl
 | N + 1, (s, v) => by
   rw [m_u17_eq, t_u17, (fcP (fcL fcI) fcI).ok]
   all_goals first | rfl | (simp only [q_m_u20, bitI_eq, dem_D]; done) | (simp only [q_m_u20, bitI_eq, dem_D]; rfl)
def t_u40 : Nat → Int × Int × (List (Int × Int)) → Option (Bool)
 | 0, _ => none
 | N + 1, v => (fcP fcI (fcP fcI (fcL (fcP fcI fcI)))).f v fun (x, x2, x3) => cond (decide (x = (0 : Int)))
  (cond (decide (x2 = (0 : Int)))
    (some (decide ((((List.length x3) : Nat) : Int) = (0 : Int))))
    (some false))
  (some false)
theorem q_m_u40 : ∀ (N : Nat) (v : Int × Int × (List (Int × Int))), m_u40 N v = t_u40 N v
 | 0, _ => by kernel_rfl
 | N + 1, (x, x2, x3) => by
   rw [m_u40_eq, t_u40, (fcP fcI (fcP fcI (fcL (fcP fcI fcI)))).ok]
   all_goals first | rfl | (simp only [bitI_eq, dem_D]; done) | (simp only [bitI_eq, dem_D]; rfl)
def t_u58 : Nat → (List Int) × (List Int) × Int × Int → Option (Bool)
 | 0, _ => none
 | N + 1, v => (fcP (fcL fcI) (fcP (fcL fcI) (fcP fcI fcI))).f v fun (p, p2, h, h2) => obind (t_u45 N (p, p2)) fun z1 =>
 cond z1
  (cond (decide ((0 : Int) ≤ h))
    (cond (decide (h < (((List.length p) : Nat) : Int)))
      (obind (nthI p h) fun z2 =>
       cond (decide (z2 = h2))
        (obind (t_u17 N (p2, h)) fun z3 =>
         some (!z3))
        (some false))
      (some false))
    (some false))
  (some false)
theorem q_m_u58 : ∀ (N : Nat) (v : (List Int) × (List Int) × Int × Int), m_u58 N v = t_u58 N v
 | 0, _ => by kernel_rfl
 | N + 1, (p, p2, h, h2) => by
   rw [m_u58_eq, t_u58, (fcP (fcL fcI) (fcP (fcL fcI) (fcP fcI fcI))).ok]
   all_goals first | rfl | (simp only [q_m_u45, q_m_u17, bitI_eq, dem_D]; done) | (simp only [q_m_u45, q_m_u17, bitI_eq, dem_D]; rfl)
def t_u24 : Nat → Int × Int × (List Int) × (List Int) → Option (Bool × (List Int) × (List Int))
 | 0, _ => none
 | N + 1, v => (fcP fcI (fcP fcI (fcP (fcL fcI) (fcL fcI)))).f v fun (h, h2, v4294967296, v42949672962) => obind (t_u58 N (v4294967296, (v42949672962, (h, h2)))) fun z1 =>
 some ((!z1), (v4294967296, v42949672962))
theorem q_m_u24 : ∀ (N : Nat) (v : Int × Int × (List Int) × (List Int)), m_u24 N v = t_u24 N v
 | 0, _ => by kernel_rfl
 | N + 1, (h, h2, v4294967296, v42949672962) => by
   rw [m_u24_eq, t_u24, (fcP fcI (fcP fcI (fcP (fcL fcI) (fcL fcI)))).ok]
   all_goals first | rfl | (simp only [q_m_u58, bitI_eq, dem_D]; done) | (simp only [q_m_u58, bitI_eq, dem_D]; rfl)
def tl_u4_1 (N : Nat) : Nat → (List (Int × Int)) × Int × Int × (List Int) × (List Int) → Option (((List Int) × (List Int)) ⊕ (Int × (List Int) × (List Int)))
 | 0, _ => none
 | m + 1, v => (fcP (fcL (fcP fcI fcI)) (fcP fcI (fcP fcI (fcP (fcL fcI) (fcL fcI))))).f v fun (s, v7, v8, f, f2) => cond (decide (v8 < v7))
  (obind (nthI s v8) fun z1 =>
   obind (t_u24 N (z1.1, (z1.2, (f, f2)))) fun z2 =>
   cond z2.1
    (some (.inr (v8, (z2.2.1, z2.2.2))))
    ((tl_u4_1 N m (s, (v7, ((IntKind.wrap .i64 (v8 + (1 : Int))), (z2.2.1, z2.2.2)))))))
  (some (.inl (f, f2)))
theorem q_l_u4_1 (N : Nat) : ∀ (m : Nat) (v : (List (Int × Int)) × Int × Int × (List Int) × (List Int)), l_u4_1 N m v = tl_u4_1 N m v
 | 0, _ => by kernel_rfl
 | m + 1, (s, v7, v8, f, f2) => by
   rw [l_u4_1_s, tl_u4_1, (fcP (fcL (fcP fcI fcI)) (fcP fcI (fcP fcI (fcP (fcL fcI) (fcL fcI))))).ok]
   all_goals first | rfl | (simp only [q_m_u24, bitI_eq, dem_D, q_l_u4_1 N m]; done) | (simp only [q_m_u24, bitI_eq, dem_D, q_l_u4_1 N m]; rfl)
def t_u4 : Nat → (List (Int × Int)) × (List Int) × (List Int) → Option (Int × (List Int) × (List Int))
 | 0, _ => none
 | N + 1, v => (fcP (fcL (fcP fcI fcI)) (fcP (fcL fcI) (fcL fcI))).f v fun (s, f, f2) => obind (tl_u4_1 N N (s, ((((List.length s) : Nat) : Int), ((0 : Int), (f, f2))))) fun z1 =>
 (match z1 with
 | .inl zy2 => some ((-(1 : Int)), (zy2.1, zy2.2))
 | .inr zy3 => some (zy3.1, (zy3.2.1, zy3.2.2)))
theorem q_m_u4 : ∀ (N : Nat) (v : (List (Int × Int)) × (List Int) × (List Int)), m_u4 N v = t_u4 N v
 | 0, _ => by kernel_rfl
 | N + 1, (s, f, f2) => by
   rw [m_u4_eq, t_u4, (fcP (fcL (fcP fcI fcI)) (fcP (fcL fcI) (fcL fcI))).ok]
   all_goals first | rfl | (simp only [q_l_u4_1, bitI_eq, dem_D]; done) | (simp only [q_l_u4_1, bitI_eq, dem_D]; rfl)
def t_u0 : Nat → (List (Int × Int)) × (List Int) × (List Int) → Option (Bool × (List Int) × (List Int))
 | 0, _ => none
 | N + 1, v => (fcP (fcL (fcP fcI fcI)) (fcP (fcL fcI) (fcL fcI))).f v fun (s, f, f2) => obind (t_u4 N (s, (f, f2))) fun z1 =>
 some ((decide ((0 : Int) ≤ z1.1)), (z1.2.1, z1.2.2))
theorem q_m_u0 : ∀ (N : Nat) (v : (List (Int × Int)) × (List Int) × (List Int)), m_u0 N v = t_u0 N v
 | 0, _ => by kernel_rfl
 | N + 1, (s, f, f2) => by
   rw [m_u0_eq, t_u0, (fcP (fcL (fcP fcI fcI)) (fcP (fcL fcI) (fcL fcI))).ok]
   all_goals first | rfl | (simp only [q_m_u4, bitI_eq, dem_D]; done) | (simp only [q_m_u4, bitI_eq, dem_D]; rfl)
def t_u54 : Nat → (List Int) × (List Int) × Int × Int × (List (Int × Int)) → Option (Bool)
 | 0, _ => none
 | N + 1, v => (fcP (fcL fcI) (fcP (fcL fcI) (fcP fcI (fcP fcI (fcL (fcP fcI fcI)))))).f v fun (p, p2, x, x2, x3) => cond (decide (x < (0 : Int)))
  (some false)
  (cond (decide (x2 < (1 : Int)))
    (some false)
    (cond (decide ((8 : Int) < x2))
      (some false)
      (cond (!(decide ((((List.length x3) : Nat) : Int) = x2)))
        (some false)
        (obind (t_u0 N (x3, (p, p2))) fun z1 =>
         some (!z1.1)))))
theorem q_m_u54 : ∀ (N : Nat) (v : (List Int) × (List Int) × Int × Int × (List (Int × Int))), m_u54 N v = t_u54 N v
 | 0, _ => by kernel_rfl
 | N + 1, (p, p2, x, x2, x3) => by
   rw [m_u54_eq, t_u54, (fcP (fcL fcI) (fcP (fcL fcI) (fcP fcI (fcP fcI (fcL (fcP fcI fcI)))))).ok]
   all_goals first | rfl | (simp only [q_m_u0, bitI_eq, dem_D]; done) | (simp only [q_m_u0, bitI_eq, dem_D]; rfl)
def tl_u39_1 (N : Nat) : Nat → (List (Int × (Int × (List (Int × Int))))) × Int × Int × (List Int) × (List Int) × (List (Int × (Int × (List (Int × Int))))) → Option ((Unit) ⊕ (Bool))
 | 0, _ => none
 | m + 1, v => (fcP (fcL (fcP fcI (fcP fcI (fcL (fcP fcI fcI))))) (fcP fcI (fcP fcI (fcP (fcL fcI) (fcP (fcL fcI) (fcL (fcP fcI (fcP fcI (fcL (fcP fcI fcI)))))))))).f v fun (v20, v21, v22, s, s2, s3) => cond (decide (v22 < v21))
  (obind (nthI v20 v22) fun z1 =>
   obind (t_u17 N (s2, v22)) fun z2 =>
   cond z2
    (obind (t_u40 N (z1.1, (z1.2.1, z1.2.2))) fun z3 =>
     cond (!z3)
      (some (.inr false))
      ((tl_u39_1 N m (v20, (v21, ((IntKind.wrap .i64 (v22 + (1 : Int))), (s, (s2, s3))))))))
    (obind (t_u54 N (s, (s2, (z1.1, (z1.2.1, z1.2.2))))) fun z4 =>
     cond (!z4)
      (some (.inr false))
      ((tl_u39_1 N m (v20, (v21, ((IntKind.wrap .i64 (v22 + (1 : Int))), (s, (s2, s3)))))))))
  (some (.inl ()))
theorem q_l_u39_1 (N : Nat) : ∀ (m : Nat) (v : (List (Int × (Int × (List (Int × Int))))) × Int × Int × (List Int) × (List Int) × (List (Int × (Int × (List (Int × Int)))))), l_u39_1 N m v = tl_u39_1 N m v
 | 0, _ => by kernel_rfl
 | m + 1, (v20, v21, v22, s, s2, s3) => by
   rw [l_u39_1_s, tl_u39_1, (fcP (fcL (fcP fcI (fcP fcI (fcL (fcP fcI fcI))))) (fcP fcI (fcP fcI (fcP (fcL fcI) (fcP (fcL fcI) (fcL (fcP fcI (fcP fcI (fcL (fcP fcI fcI)))))))))).ok]
   all_goals first | rfl | (simp only [q_m_u17, q_m_u40, q_m_u54, bitI_eq, dem_D, q_l_u39_1 N m]; done) | (simp only [q_m_u17, q_m_u40, q_m_u54, bitI_eq, dem_D, q_l_u39_1 N m]; rfl)
def t_u39 : Nat → (List Int) × (List Int) × (List (Int × (Int × (List (Int × Int))))) → Option (Bool)
 | 0, _ => none
 | N + 1, v => (fcP (fcL fcI) (fcP (fcL fcI) (fcL (fcP fcI (fcP fcI (fcL (fcP fcI fcI))))))).f v fun (s, s2, s3) => obind (t_u45 N (s, s2)) fun z1 =>
 cond (!z1)
  (some false)
  (cond (!(decide ((((List.length s3) : Nat) : Int) = (((List.length s) : Nat) : Int))))
    (some false)
    (obind (tl_u39_1 N N (s3, ((((List.length s3) : Nat) : Int), ((0 : Int), (s, (s2, s3)))))) fun z2 =>
     (match z2 with
     | .inl zy3 => some true
     | .inr zy4 => some zy4)))
theorem q_m_u39 : ∀ (N : Nat) (v : (List Int) × (List Int) × (List (Int × (Int × (List (Int × Int)))))), m_u39 N v = t_u39 N v
 | 0, _ => by kernel_rfl
 | N + 1, (s, s2, s3) => by
   rw [m_u39_eq, t_u39, (fcP (fcL fcI) (fcP (fcL fcI) (fcL (fcP fcI (fcP fcI (fcL (fcP fcI fcI))))))).ok]
   all_goals first | rfl | (simp only [q_l_u39_1, q_m_u45, bitI_eq, dem_D]; done) | (simp only [q_l_u39_1, q_m_u45, bitI_eq, dem_D]; rfl)
def t_u31 : Nat → Int → Option (Bool)
 | 0, _ => none
 | N + 1, v => fcI.f v fun (t) => cond (decide (t < (0 : Int)))
  (some true)
  (some (decide ((10000 : Int) < t)))
theorem q_m_u31 : ∀ (N : Nat) (v : Int), m_u31 N v = t_u31 N v
 | 0, _ => by kernel_rfl
 | N + 1, (t) => by
   rw [m_u31_eq, t_u31, fcI.ok]
   all_goals first | rfl | (simp only [bitI_eq, dem_D]; done) | (simp only [bitI_eq, dem_D]; rfl)
def tl_u12_1 (N : Nat) : Nat → (List Int) × Int × Int → Option ((Unit) ⊕ (Int))
 | 0, _ => none
 | m + 1, v => (fcP (fcL fcI) (fcP fcI fcI)).f v fun (s, v7, v8) => cond (decide (v8 < v7))
  (obind (nthI s v8) fun z1 =>
   obind (t_u31 N z1) fun z2 =>
   cond z2
    (some (.inr v8))
    ((tl_u12_1 N m (s, (v7, (IntKind.wrap .i64 (v8 + (1 : Int))))))))
  (some (.inl ()))
theorem q_l_u12_1 (N : Nat) : ∀ (m : Nat) (v : (List Int) × Int × Int), l_u12_1 N m v = tl_u12_1 N m v
 | 0, _ => by kernel_rfl
 | m + 1, (s, v7, v8) => by
   rw [l_u12_1_s, tl_u12_1, (fcP (fcL fcI) (fcP fcI fcI)).ok]
   all_goals first | rfl | (simp only [q_m_u31, bitI_eq, dem_D, q_l_u12_1 N m]; done) | (simp only [q_m_u31, bitI_eq, dem_D, q_l_u12_1 N m]; rfl)
def t_u12 : Nat → (List Int) → Option (Int)
 | 0, _ => none
 | N + 1, v => (fcL fcI).f v fun (s) => obind (tl_u12_1 N N (s, ((((List.length s) : Nat) : Int), (0 : Int)))) fun z1 =>
 (match z1 with
 | .inl zy2 => some (-(1 : Int))
 | .inr zy3 => some zy3)
theorem q_m_u12 : ∀ (N : Nat) (v : (List Int)), m_u12 N v = t_u12 N v
 | 0, _ => by kernel_rfl
 | N + 1, (s) => by
   rw [m_u12_eq, t_u12, (fcL fcI).ok]
   all_goals first | rfl | (simp only [q_l_u12_1, bitI_eq, dem_D]; done) | (simp only [q_l_u12_1, bitI_eq, dem_D]; rfl)
def t_u8 : Nat → (List Int) → Option (Bool)
 | 0, _ => none
 | N + 1, v => (fcL fcI).f v fun (s) => obind (t_u12 N s) fun z1 =>
 some (decide ((0 : Int) ≤ z1))
theorem q_m_u8 : ∀ (N : Nat) (v : (List Int)), m_u8 N v = t_u8 N v
 | 0, _ => by kernel_rfl
 | N + 1, (s) => by
   rw [m_u8_eq, t_u8, (fcL fcI).ok]
   all_goals first | rfl | (simp only [q_m_u12, bitI_eq, dem_D]; done) | (simp only [q_m_u12, bitI_eq, dem_D]; rfl)
def tl_u29_1 (N : Nat) : Nat → (List Int) × (List Int) × Int × Int × (List (Int × Int)) → Option ((List Int) × (List (Int × Int)))
 | 0, _ => none
 | m + 1, v => (fcP (fcL fcI) (fcP (fcL fcI) (fcP fcI (fcP fcI (fcL (fcP fcI fcI)))))).f v fun (l, v7, v8, v9, met) => cond (decide (v9 < v8))
  (obind (nthI v7 v9) fun z1 =>
   (tl_u29_1 N m (l, (v7, (v8, ((IntKind.wrap .i64 (v9 + (1 : Int))), (mput (.i .i64) met z1 (IntKind.wrap .i64 ((Option.getD (mget (.i .i64) met z1) (0 : Int)) + (1 : Int))))))))))
  (some (l, met))
theorem q_l_u29_1 (N : Nat) : ∀ (m : Nat) (v : (List Int) × (List Int) × Int × Int × (List (Int × Int))), l_u29_1 N m v = tl_u29_1 N m v
 | 0, _ => by kernel_rfl
 | m + 1, (l, v7, v8, v9, met) => by
   rw [l_u29_1_s, tl_u29_1, (fcP (fcL fcI) (fcP (fcL fcI) (fcP fcI (fcP fcI (fcL (fcP fcI fcI)))))).ok]
   all_goals first | rfl | (simp only [bitI_eq, dem_D, q_l_u29_1 N m]; done) | (simp only [bitI_eq, dem_D, q_l_u29_1 N m]; rfl)
def t_u29 : Nat → (List Int) → Option (Bool)
 | 0, _ => none
 | N + 1, v => (fcL fcI).f v fun (l) => obind (tl_u29_1 N N (l, (l, ((((List.length l) : Nat) : Int), ((0 : Int), []))))) fun z1 =>
 some (decide ((((List.length z1.2) : Nat) : Int) = (((List.length z1.1) : Nat) : Int)))
theorem q_m_u29 : ∀ (N : Nat) (v : (List Int)), m_u29 N v = t_u29 N v
 | 0, _ => by kernel_rfl
 | N + 1, (l) => by
   rw [m_u29_eq, t_u29, (fcL fcI).ok]
   all_goals first | rfl | (simp only [q_l_u29_1, bitI_eq, dem_D]; done) | (simp only [q_l_u29_1, bitI_eq, dem_D]; rfl)
def t_u50 : Nat → (List Int) → Option (Bool)
 | 0, _ => none
 | N + 1, v => (fcL fcI).f v fun (l) => cond (decide ((1000 : Int) < (((List.length l) : Nat) : Int)))
  (some false)
  (obind (t_u8 N l) fun z1 =>
   cond (!z1)
    (obind (t_u29 N l) fun z2 =>
     some z2)
    (some false))
theorem q_m_u50 : ∀ (N : Nat) (v : (List Int)), m_u50 N v = t_u50 N v
 | 0, _ => by kernel_rfl
 | N + 1, (l) => by
   rw [m_u50_eq, t_u50, (fcL fcI).ok]
   all_goals first | rfl | (simp only [q_m_u29, q_m_u8, bitI_eq, dem_D]; done) | (simp only [q_m_u29, q_m_u8, bitI_eq, dem_D]; rfl)
def t_u56 : Nat → Int → Option (Bool)
 | 0, _ => none
 | N + 1, v => fcI.f v fun (h) => cond (decide ((1 : Int) ≤ h))
  (some (decide (h ≤ (8 : Int))))
  (some false)
theorem q_m_u56 : ∀ (N : Nat) (v : Int), m_u56 N v = t_u56 N v
 | 0, _ => by kernel_rfl
 | N + 1, (h) => by
   rw [m_u56_eq, t_u56, fcI.ok]
   all_goals first | rfl | (simp only [bitI_eq, dem_D]; done) | (simp only [bitI_eq, dem_D]; rfl)
def t_u30 : Nat → Int → Option (Bool)
 | 0, _ => none
 | N + 1, v => fcI.f v fun (h) => obind (t_u56 N h) fun z1 =>
 some (!z1)
theorem q_m_u30 : ∀ (N : Nat) (v : Int), m_u30 N v = t_u30 N v
 | 0, _ => by kernel_rfl
 | N + 1, (h) => by
   rw [m_u30_eq, t_u30, fcI.ok]
   all_goals first | rfl | (simp only [q_m_u56, bitI_eq, dem_D]; done) | (simp only [q_m_u56, bitI_eq, dem_D]; rfl)
def tl_u9_1 (N : Nat) : Nat → (List Int) × Int × Int → Option ((Unit) ⊕ (Int))
 | 0, _ => none
 | m + 1, v => (fcP (fcL fcI) (fcP fcI fcI)).f v fun (s, v7, v8) => cond (decide (v8 < v7))
  (obind (nthI s v8) fun z1 =>
   obind (t_u30 N z1) fun z2 =>
   cond z2
    (some (.inr v8))
    ((tl_u9_1 N m (s, (v7, (IntKind.wrap .i64 (v8 + (1 : Int))))))))
  (some (.inl ()))
theorem q_l_u9_1 (N : Nat) : ∀ (m : Nat) (v : (List Int) × Int × Int), l_u9_1 N m v = tl_u9_1 N m v
 | 0, _ => by kernel_rfl
 | m + 1, (s, v7, v8) => by
   rw [l_u9_1_s, tl_u9_1, (fcP (fcL fcI) (fcP fcI fcI)).ok]
   all_goals first | rfl | (simp only [q_m_u30, bitI_eq, dem_D, q_l_u9_1 N m]; done) | (simp only [q_m_u30, bitI_eq, dem_D, q_l_u9_1 N m]; rfl)
def t_u9 : Nat → (List Int) → Option (Int)
 | 0, _ => none
 | N + 1, v => (fcL fcI).f v fun (s) => obind (tl_u9_1 N N (s, ((((List.length s) : Nat) : Int), (0 : Int)))) fun z1 =>
 (match z1 with
 | .inl zy2 => some (-(1 : Int))
 | .inr zy3 => some zy3)
theorem q_m_u9 : ∀ (N : Nat) (v : (List Int)), m_u9 N v = t_u9 N v
 | 0, _ => by kernel_rfl
 | N + 1, (s) => by
   rw [m_u9_eq, t_u9, (fcL fcI).ok]
   all_goals first | rfl | (simp only [q_l_u9_1, bitI_eq, dem_D]; done) | (simp only [q_l_u9_1, bitI_eq, dem_D]; rfl)
def t_u7 : Nat → (List Int) → Option (Bool)
 | 0, _ => none
 | N + 1, v => (fcL fcI).f v fun (s) => obind (t_u9 N s) fun z1 =>
 some (decide ((0 : Int) ≤ z1))
theorem q_m_u7 : ∀ (N : Nat) (v : (List Int)), m_u7 N v = t_u7 N v
 | 0, _ => by kernel_rfl
 | N + 1, (s) => by
   rw [m_u7_eq, t_u7, (fcL fcI).ok]
   all_goals first | rfl | (simp only [q_m_u9, bitI_eq, dem_D]; done) | (simp only [q_m_u9, bitI_eq, dem_D]; rfl)
def t_u18 : Nat → (List Int) → Option ((List Int))
 | 0, _ => none
 | N + 1, v => (fcL fcI).f v fun (s) => cond (isNilB s)
  (demD fun zb1 =>
   cond zb1
    (some [])
    (obind (appI (8 : Nat) [] s) fun z2 =>
     some z2))
  (obind (appI (8 : Nat) [] s) fun z3 =>
   some z3)
theorem q_m_u18 : ∀ (N : Nat) (v : (List Int)), m_u18 N v = t_u18 N v
 | 0, _ => by kernel_rfl
 | N + 1, (s) => by
   rw [m_u18_eq, t_u18, (fcL fcI).ok]
   all_goals first | rfl | (simp only [bitI_eq, dem_D]; done) | (simp only [bitI_eq, dem_D]; rfl)
def tl_u43_3 (N : Nat) : Nat → (List Int) × Int × Int × Int × Int × Int × Int × (List Int) × (List Int) × (List Int) × (List (List Int)) → Option ((List Int) × Int × Int × Int × (List Int) × (List Int) × (List Int) × (List (List Int)))
 | 0, _ => none
 | m + 1, v => (fcP (fcL fcI) (fcP fcI (fcP fcI (fcP fcI (fcP fcI (fcP fcI (fcP fcI (fcP (fcL fcI) (fcP (fcL fcI) (fcP (fcL fcI) (fcL (fcL fcI)))))))))))).f v fun (heights, n, i, v42, v43, v68, v69, behind, v903, v904, v905) => cond (decide (v69 < v68))
  (obind (nthI (List.range (8 : Nat)) v69) fun z1 =>
   obind (nthI behind v69) fun z2 =>
   obind (nthI behind v69) fun z3 =>
   (tl_u43_3 N m (heights, (n, (i, (v42, (v43, (v68, ((IntKind.wrap .i64 (v69 + (1 : Int))), ((List.set behind (Int.toNat v69) i), (v903, (v904, v905))))))))))))
  (some (heights, (n, (v42, (v43, (behind, (v903, (v904, v905))))))))
theorem q_l_u43_3 (N : Nat) : ∀ (m : Nat) (v : (List Int) × Int × Int × Int × Int × Int × Int × (List Int) × (List Int) × (List Int) × (List (List Int))), l_u43_3 N m v = tl_u43_3 N m v
 | 0, _ => by kernel_rfl
 | m + 1, (heights, n, i, v42, v43, v68, v69, behind, v903, v904, v905) => by
   rw [l_u43_3_s, tl_u43_3, (fcP (fcL fcI) (fcP fcI (fcP fcI (fcP fcI (fcP fcI (fcP fcI (fcP fcI (fcP (fcL fcI) (fcP (fcL fcI) (fcP (fcL fcI) (fcL (fcL fcI)))))))))))).ok]
   all_goals first | rfl | (simp only [bitI_eq, dem_D, q_l_u43_3 N m]; done) | (simp only [bitI_eq, dem_D, q_l_u43_3 N m]; rfl)
def tl_u43_2 (N : Nat) : Nat → (List Int) × Int × Int × Int × Int × Int × (List Int) × (List Int) × (List Int) × (List (List Int)) → Option ((List Int) × Int × Int × Int × Int × (List Int) × (List Int) × (List Int) × (List (List Int)))
 | 0, _ => none
 | m + 1, v => (fcP (fcL fcI) (fcP fcI (fcP fcI (fcP fcI (fcP fcI (fcP fcI (fcP (fcL fcI) (fcP (fcL fcI) (fcP (fcL fcI) (fcL (fcL fcI))))))))))).f v fun (heights, n, k, i, v42, v43, behind, v903, v904, v905) => cond (decide (n ≤ k))
  (obind (nthI heights i) fun z1 =>
   obind (subI (List.replicate (8 : Nat) ()) (0 : Int) z1) fun z2 =>
   cond ((Nat.ble ((Int.toNat (0 : Int)) + (Int.toNat (z1 - (0 : Int)))) (List.length behind)) && true)
    (obind (t_u18 N (List.take (Int.toNat (z1 - (0 : Int))) (List.drop (Int.toNat (0 : Int)) behind))) fun z3 =>
     obind (nthI v905 i) fun z4 =>
     obind (nthI v905 i) fun z5 =>
     some (heights, (n, (i, (v42, (v43, (behind, (v903, (v904, (List.set v905 (Int.toNat i) z3))))))))))
    (none))
  (some (heights, (n, (i, (v42, (v43, (behind, (v903, (v904, v905)))))))))
theorem q_l_u43_2 (N : Nat) : ∀ (m : Nat) (v : (List Int) × Int × Int × Int × Int × Int × (List Int) × (List Int) × (List Int) × (List (List Int))), l_u43_2 N m v = tl_u43_2 N m v
 | 0, _ => by kernel_rfl
 | m + 1, (heights, n, k, i, v42, v43, behind, v903, v904, v905) => by
   rw [l_u43_2_s, tl_u43_2, (fcP (fcL fcI) (fcP fcI (fcP fcI (fcP fcI (fcP fcI (fcP fcI (fcP (fcL fcI) (fcP (fcL fcI) (fcP (fcL fcI) (fcL (fcL fcI))))))))))).ok]
   all_goals first | rfl | (simp only [q_m_u18, bitI_eq, dem_D]; done) | (simp only [q_m_u18, bitI_eq, dem_D]; rfl)
def tl_u43_1 (N : Nat) : Nat → (List Int) × Int × Int × Int × (List Int) × (List Int) × (List Int) × (List (List Int)) → Option ((List Int) × (List Int) × (List (List Int)))
 | 0, _ => none
 | m + 1, v => (fcP (fcL fcI) (fcP fcI (fcP fcI (fcP fcI (fcP (fcL fcI) (fcP (fcL fcI) (fcP (fcL fcI) (fcL (fcL fcI))))))))).f v fun (heights, n, v42, v43, behind, v903, v904, v905) => cond (decide (v43 < v42))
  (obind (remI v43 n) fun z1 =>
   obind (tl_u43_2 N N (heights, (n, (v43, ((IntKind.wrap .i64 ((IntKind.wrap .i64 (n - (1 : Int))) - z1)), (v42, (v43, (behind, (v903, (v904, v905)))))))))) fun z2 =>
   obind (nthI z2.1 z2.2.2.1) fun z3 =>
   obind (tl_u43_3 N N (z2.1, (z2.2.1, (z2.2.2.1, (z2.2.2.2.1, (z2.2.2.2.2.1, (z3, ((0 : Int), (z2.2.2.2.2.2.1, (z2.2.2.2.2.2.2.1, (z2.2.2.2.2.2.2.2.1, z2.2.2.2.2.2.2.2.2))))))))))) fun z4 =>
   (tl_u43_1 N m (z4.1, (z4.2.1, (z4.2.2.1, ((IntKind.wrap .i64 (z4.2.2.2.1 + (1 : Int))), (z4.2.2.2.2.1, (z4.2.2.2.2.2.1, (z4.2.2.2.2.2.2.1, z4.2.2.2.2.2.2.2)))))))))
  (some (v903, (v904, v905)))
theorem q_l_u43_1 (N : Nat) : ∀ (m : Nat) (v : (List Int) × Int × Int × Int × (List Int) × (List Int) × (List Int) × (List (List Int))), l_u43_1 N m v = tl_u43_1 N m v
 | 0, _ => by kernel_rfl
 | m + 1, (heights, n, v42, v43, behind, v903, v904, v905) => by
   rw [l_u43_1_s, tl_u43_1, (fcP (fcL fcI) (fcP fcI (fcP fcI (fcP fcI (fcP (fcL fcI) (fcP (fcL fcI) (fcP (fcL fcI) (fcL (fcL fcI))))))))).ok]
   all_goals first | rfl | (simp only [q_l_u43_2, q_l_u43_3, bitI_eq, dem_D, q_l_u43_1 N m]; done) | (simp only [q_l_u43_2, q_l_u43_3, bitI_eq, dem_D, q_l_u43_1 N m]; rfl)
def t_u43 : Nat → (List Int) × (List Int) → Option (Int × (List Int) × (List Int) × (List (List Int)))
 | 0, _ => none
 | N + 1, v => (fcP (fcL fcI) (fcL fcI)).f v fun (tokens, heights) => cond (decide ((((List.length tokens) : Nat) : Int) = (0 : Int)))
  (some ((1 : Int), ([], ([], []))))
  (cond (!(decide ((((List.length heights) : Nat) : Int) = (((List.length tokens) : Nat) : Int))))
    (some ((1 : Int), ([], ([], []))))
    (obind (t_u50 N tokens) fun z1 =>
     cond (!z1)
      (some ((1 : Int), ([], ([], []))))
      (obind (t_u7 N heights) fun z2 =>
       cond z2
        (some ((1 : Int), ([], ([], []))))
        (obind (t_u18 N tokens) fun z3 =>
         obind (t_u18 N heights) fun z4 =>
         obind (makI (((List.length tokens) : Nat) : Int) (24 : Nat)) fun z5 =>
         obind (tl_u43_1 N N (heights, ((((List.length tokens) : Nat) : Int), ((IntKind.wrap .i64 ((2 : Int) * (((List.length tokens) : Nat) : Int))), ((0 : Int), ((List.replicate (8 : Nat) (0 : Int)), (z3, (z4, (List.replicate z5 []))))))))) fun z6 =>
         some ((0 : Int), (z6.1, (z6.2.1, z6.2.2)))))))
theorem q_m_u43 : ∀ (N : Nat) (v : (List Int) × (List Int)), m_u43 N v = t_u43 N v
 | 0, _ => by kernel_rfl
 | N + 1, (tokens, heights) => by
   rw [m_u43_eq, t_u43, (fcP (fcL fcI) (fcL fcI)).ok]
   all_goals first | rfl | (simp only [q_l_u43_1, q_m_u50, q_m_u18, q_m_u7, bitI_eq, dem_D]; done) | (simp only [q_l_u43_1, q_m_u50, q_m_u18, q_m_u7, bitI_eq, dem_D]; rfl)
def tl_u19_1 (N : Nat) : Nat → (List Int) × (List Int) × Int × Int → Option ((Unit) ⊕ (Bool))
 | 0, _ => none
 | m + 1, v => (fcP (fcL fcI) (fcP (fcL fcI) (fcP fcI fcI))).f v fun (s1, s2, v12, v13) => cond (decide (v13 < v12))
  (obind (nthI s1 v13) fun z1 =>
   obind (nthI s2 v13) fun z2 =>
   cond (!(decide (z1 = z2)))
    (some (.inr false))
    ((tl_u19_1 N m (s1, (s2, (v12, (IntKind.wrap .i64 (v13 + (1 : Int)))))))))
  (some (.inl ()))
theorem q_l_u19_1 (N : Nat) : ∀ (m : Nat) (v : (List Int) × (List Int) × Int × Int), l_u19_1 N m v = tl_u19_1 N m v
 | 0, _ => by kernel_rfl
 | m + 1, (s1, s2, v12, v13) => by
   rw [l_u19_1_s, tl_u19_1, (fcP (fcL fcI) (fcP (fcL fcI) (fcP fcI fcI))).ok]
   all_goals first | rfl | (simp only [bitI_eq, dem_D, q_l_u19_1 N m]; done) | (simp only [bitI_eq, dem_D, q_l_u19_1 N m]; rfl)
def t_u19 : Nat → (List Int) × (List Int) → Option (Bool)
 | 0, _ => none
 | N + 1, v => (fcP (fcL fcI) (fcL fcI)).f v fun (s1, s2) => cond (!(decide ((((List.length s1) : Nat) : Int) = (((List.length s2) : Nat) : Int))))
  (some false)
  (obind (tl_u19_1 N N (s1, (s2, ((((List.length s1) : Nat) : Int), (0 : Int))))) fun z1 =>
   (match z1 with
   | .inl zy2 => some true
   | .inr zy3 => some zy3))
theorem q_m_u19 : ∀ (N : Nat) (v : (List Int) × (List Int)), m_u19 N v = t_u19 N v
 | 0, _ => by kernel_rfl
 | N + 1, (s1, s2) => by
   rw [m_u19_eq, t_u19, (fcP (fcL fcI) (fcL fcI)).ok]
   all_goals first | rfl | (simp only [q_l_u19_1, bitI_eq, dem_D]; done) | (simp only [q_l_u19_1, bitI_eq, dem_D]; rfl)
def tl_u3_1 (N : Nat) : Nat → (List (List Int)) × (List (List Int)) × Int × Int → Option ((Unit) ⊕ (Bool))
 | 0, _ => none
 | m + 1, v => (fcP (fcL (fcL fcI)) (fcP (fcL (fcL fcI)) (fcP fcI fcI))).f v fun (s2, v15, v16, v17) => cond (decide (v17 < v16))
  (obind (nthI v15 v17) fun z1 =>
   obind (nthI s2 v17) fun z2 =>
   obind (t_u19 N (z1, z2)) fun z3 =>
   cond (!z3)
    (some (.inr false))
    ((tl_u3_1 N m (s2, (v15, (v16, (IntKind.wrap .i64 (v17 + (1 : Int)))))))))
  (some (.inl ()))
theorem q_l_u3_1 (N : Nat) : ∀ (m : Nat) (v : (List (List Int)) × (List (List Int)) × Int × Int), l_u3_1 N m v = tl_u3_1 N m v
 | 0, _ => by kernel_rfl
 | m + 1, (s2, v15, v16, v17) => by
   rw [l_u3_1_s, tl_u3_1, (fcP (fcL (fcL fcI)) (fcP (fcL (fcL fcI)) (fcP fcI fcI))).ok]
   all_goals first | rfl | (simp only [q_m_u19, bitI_eq, dem_D, q_l_u3_1 N m]; done) | (simp only [q_m_u19, bitI_eq, dem_D, q_l_u3_1 N m]; rfl)
def t_u3 : Nat → (List (List Int)) × (List (List Int)) → Option (Bool)
 | 0, _ => none
 | N + 1, v => (fcP (fcL (fcL fcI)) (fcL (fcL fcI))).f v fun (s1, s2) => cond (!(decide ((((List.length s1) : Nat) : Int) = (((List.length s2) : Nat) : Int))))
  (some false)
  (obind (tl_u3_1 N N (s2, (s1, ((((List.length s1) : Nat) : Int), (0 : Int))))) fun z1 =>
   (match z1 with
   | .inl zy2 => some true
   | .inr zy3 => some zy3))
theorem q_m_u3 : ∀ (N : Nat) (v : (List (List Int)) × (List (List Int))), m_u3 N v = t_u3 N v
 | 0, _ => by kernel_rfl
 | N + 1, (s1, s2) => by
   rw [m_u3_eq, t_u3, (fcP (fcL (fcL fcI)) (fcL (fcL fcI))).ok]
   all_goals first | rfl | (simp only [q_l_u3_1, bitI_eq, dem_D]; done) | (simp only [q_l_u3_1, bitI_eq, dem_D]; rfl)
def t_u55 : Nat → (List Int) × (List Int) × (List (List Int)) × (List Int) × (List Int) × (List (List Int)) → Option (Bool)
 | 0, _ => none
 | N + 1, v => (fcP (fcL fcI) (fcP (fcL fcI) (fcP (fcL (fcL fcI)) (fcP (fcL fcI) (fcP (fcL fcI) (fcL (fcL fcI))))))).f v fun (a, a2, a3, b, b2, b3) => obind (t_u19 N (a, b)) fun z1 =>
 cond z1
  (obind (t_u19 N (a2, b2)) fun z2 =>
   cond z2
    (obind (t_u3 N (a3, b3)) fun z3 =>
     some z3)
    (some false))
  (some false)
theorem q_m_u55 : ∀ (N : Nat) (v : (List Int) × (List Int) × (List (List Int)) × (List Int) × (List Int) × (List (List Int))), m_u55 N v = t_u55 N v
 | 0, _ => by kernel_rfl
 | N + 1, (a, a2, a3, b, b2, b3) => by
   rw [m_u55_eq, t_u55, (fcP (fcL fcI) (fcP (fcL fcI) (fcP (fcL (fcL fcI)) (fcP (fcL fcI) (fcP (fcL fcI) (fcL (fcL fcI))))))).ok]
   all_goals first | rfl | (simp only [q_m_u3, q_m_u19, bitI_eq, dem_D]; done) | (simp only [q_m_u3, q_m_u19, bitI_eq, dem_D]; rfl)
def t_u44 : Nat → (List Int) × (List Int) × (List (List Int)) → Option (Bool)
 | 0, _ => none
 | N + 1, v => (fcP (fcL fcI) (fcP (fcL fcI) (fcL (fcL fcI)))).f v fun (t, t2, t3) => obind (t_u43 N (t, t2)) fun z1 =>
 cond (decide (z1.1 = (0 : Int)))
  (obind (t_u55 N (z1.2.1, (z1.2.2.1, (z1.2.2.2, (t, (t2, t3)))))) fun z2 =>
   some z2)
  (some false)
theorem q_m_u44 : ∀ (N : Nat) (v : (List Int) × (List Int) × (List (List Int))), m_u44 N v = t_u44 N v
 | 0, _ => by kernel_rfl
 | N + 1, (t, t2, t3) => by
   rw [m_u44_eq, t_u44, (fcP (fcL fcI) (fcP (fcL fcI) (fcL (fcL fcI)))).ok]
   all_goals first | rfl | (simp only [q_m_u43, q_m_u55, bitI_eq, dem_D]; done) | (simp only [q_m_u43, q_m_u55, bitI_eq, dem_D]; rfl)
def t_u21 : Nat → (List Int) → Option ((List Int))
 | 0, _ => none
 | N + 1, v => (fcL fcI).f v fun (s) => obind (subM s (0 : Int) (((List.length s) : Nat) : Int) (((List.length s) : Nat) : Int)) fun z1 =>
 cond (decide ((((List.length s) : Nat) : Int) = (((List.length s) : Nat) : Int)))
  (some z1)
  (none)
theorem q_m_u21 : ∀ (N : Nat) (v : (List Int)), m_u21 N v = t_u21 N v
 | 0, _ => by kernel_rfl
 | N + 1, (s) => by
   rw [m_u21_eq, t_u21, (fcL fcI).ok]
   all_goals first | rfl | (simp only [bitI_eq, dem_D]; done) | (simp only [bitI_eq, dem_D]; rfl)
def t_u60 : Nat → (List Int) × (List Int) → Option (Int × (List Int) × (List Int) × Int × Int)
 | 0, _ => none
 | N + 1, v => (fcP (fcL fcI) (fcL fcI)).f v fun (p, p2) => obind (t_u45 N (p, p2)) fun z1 =>
 cond (!z1)
  (some ((1 : Int), (p, (p2, ((0 : Int), (0 : Int))))))
  (cond (decide ((IntKind.wrap .i64 ((((List.length p2) : Nat) : Int) - (1 : Int))) < (0 : Int)))
    (some ((2 : Int), (p, (p2, ((0 : Int), (0 : Int))))))
    (obind (nthI p2 (IntKind.wrap .i64 ((((List.length p2) : Nat) : Int) - (1 : Int)))) fun z2 =>
     obind (nthI p z2) fun z3 =>
     cond (decide (z3 = (1073741824 : Int)))
      (some ((2 : Int), (p, (p2, ((0 : Int), (0 : Int))))))
      (obind (nthI p2 (IntKind.wrap .i64 ((((List.length p2) : Nat) : Int) - (1 : Int)))) fun z4 =>
       obind (subI p2 (0 : Int) (IntKind.wrap .i64 ((((List.length p2) : Nat) : Int) - (1 : Int)))) fun z5 =>
       obind (t_u21 N z5) fun z6 =>
       obind (t_u18 N p) fun z7 =>
       obind (nthI z7 z4) fun z8 =>
       obind (nthI z7 z4) fun z9 =>
       obind (nthI z7 z4) fun z10 =>
       obind (nthI z7 z4) fun z11 =>
       obind (nthI (List.set z7 (Int.toNat z4) (IntKind.wrap .i64 (z9 + (1 : Int)))) z4) fun z12 =>
       obind (nthI (List.set z7 (Int.toNat z4) (IntKind.wrap .i64 (z9 + (1 : Int)))) z4) fun z13 =>
       some ((0 : Int), ((List.set z7 (Int.toNat z4) (IntKind.wrap .i64 (z9 + (1 : Int)))), (z6, (z4, z13)))))))
theorem q_m_u60 : ∀ (N : Nat) (v : (List Int) × (List Int)), m_u60 N v = t_u60 N v
 | 0, _ => by kernel_rfl
 | N + 1, (p, p2) => by
   rw [m_u60_eq, t_u60, (fcP (fcL fcI) (fcL fcI)).ok]
   all_goals first | rfl | (simp only [q_m_u45, q_m_u21, q_m_u18, bitI_eq, dem_D]; done) | (simp only [q_m_u45, q_m_u21, q_m_u18, bitI_eq, dem_D]; rfl)
def tl_u42_1 (N : Nat) : Nat → Int × Int × (List Int) × (List Int) × (List (Int × Int)) → Option (((List Int) × (List Int) × (List (Int × Int))) ⊕ (Int × (List Int) × (List Int)))
 | 0, _ => none
 | m + 1, v => (fcP fcI (fcP fcI (fcP (fcL fcI) (fcP (fcL fcI) (fcL (fcP fcI fcI)))))).f v fun (v8, v9, p, p2, l) => cond (decide (v9 < v8))
  (obind (t_u60 N (p, p2)) fun z1 =>
   cond (!(decide (z1.1 = (0 : Int))))
    (some (.inr (z1.1, (z1.2.1, z1.2.2.1))))
    (obind (appI (16 : Nat) l [(z1.2.2.2.1, z1.2.2.2.2)]) fun z2 =>
     (tl_u42_1 N m (v8, ((IntKind.wrap .i64 (v9 + (1 : Int))), (z1.2.1, (z1.2.2.1, z2)))))))
  (some (.inl (p, (p2, l))))
theorem q_l_u42_1 (N : Nat) : ∀ (m : Nat) (v : Int × Int × (List Int) × (List Int) × (List (Int × Int))), l_u42_1 N m v = tl_u42_1 N m v
 | 0, _ => by kernel_rfl
 | m + 1, (v8, v9, p, p2, l) => by
   rw [l_u42_1_s, tl_u42_1, (fcP fcI (fcP fcI (fcP (fcL fcI) (fcP (fcL fcI) (fcL (fcP fcI fcI)))))).ok]
   all_goals first | rfl | (simp only [q_m_u60, bitI_eq, dem_D, q_l_u42_1 N m]; done) | (simp only [q_m_u60, bitI_eq, dem_D, q_l_u42_1 N m]; rfl)
def t_u42 : Nat → (List Int) × (List Int) × Int → Option (Int × (List Int) × (List Int) × (List (Int × Int)))
 | 0, _ => none
 | N + 1, v => (fcP (fcL fcI) (fcP (fcL fcI) fcI)).f v fun (p, p2, n) => obind (tl_u42_1 N N (n, ((0 : Int), (p, (p2, []))))) fun z1 =>
 (match z1 with
 | .inl zy2 => some ((0 : Int), (zy2.1, (zy2.2.1, zy2.2.2)))
 | .inr zy3 => some (zy3.1, (zy3.2.1, (zy3.2.2, []))))
theorem q_m_u42 : ∀ (N : Nat) (v : (List Int) × (List Int) × Int), m_u42 N v = t_u42 N v
 | 0, _ => by kernel_rfl
 | N + 1, (p, p2, n) => by
   rw [m_u42_eq, t_u42, (fcP (fcL fcI) (fcP (fcL fcI) fcI)).ok]
   all_goals first | rfl | (simp only [q_l_u42_1, bitI_eq, dem_D]; done) | (simp only [q_l_u42_1, bitI_eq, dem_D]; rfl)
def t_u14 : Nat → (List (Int × (Int × (List (Int × Int))))) → Option ((List (Int × (Int × (List (Int × Int))))))
 | 0, _ => none
 | N + 1, v => (fcL (fcP fcI (fcP fcI (fcL (fcP fcI fcI))))).f v fun (s) => cond (isNilB s)
  (demD fun zb1 =>
   cond zb1
    (some [])
    (obind (appI (40 : Nat) [] s) fun z2 =>
     some z2))
  (obind (appI (40 : Nat) [] s) fun z3 =>
   some z3)
theorem q_m_u14 : ∀ (N : Nat) (v : (List (Int × (Int × (List (Int × Int)))))), m_u14 N v = t_u14 N v
 | 0, _ => by kernel_rfl
 | N + 1, (s) => by
   rw [m_u14_eq, t_u14, (fcL (fcP fcI (fcP fcI (fcL (fcP fcI fcI))))).ok]
   all_goals first | rfl | (simp only [bitI_eq, dem_D]; done) | (simp only [bitI_eq, dem_D]; rfl)
def tl_u61_2 (N : Nat) : Nat → Int × Int × (List Int) × Int × Int × (List Int) × (List Int) × (List (List Int)) × Int × Int × (List Int) × (List Int) × (List (Int × Int)) × (List (Int × (Int × (List (Int × Int))))) × Int × Int × Int × Int × (List (Int × Int)) → Option (Int × Int × (List Int) × (List Int) × (List (List Int)) × Int × Int × (List Int) × (List Int) × (List (Int × Int)) × (List (Int × (Int × (List (Int × Int))))) × Int × Int × Int × Int × (List (Int × Int)))
 | 0, _ => none
 | m + 1, v => (fcP fcI (fcP fcI (fcP (fcL fcI) (fcP fcI (fcP fcI (fcP (fcL fcI) (fcP (fcL fcI) (fcP (fcL (fcL fcI)) (fcP fcI (fcP fcI (fcP (fcL fcI) (fcP (fcL fcI) (fcP (fcL (fcP fcI fcI)) (fcP (fcL (fcP fcI (fcP fcI (fcL (fcP fcI fcI))))) (fcP fcI (fcP fcI (fcP fcI (fcP fcI (fcL (fcP fcI fcI)))))))))))))))))))).f v fun (v45, v46, v66, v67, v68, t, t2, t3, v5, v52, p, p2, l, nodes, h, h2, x, x2, v908) => cond (decide (v68 < v67))
  (obind (nthI v66 v68) fun z1 =>
   obind (nthI l z1) fun z2 =>
   obind (nthI l z1) fun z3 =>
   obind (appI (16 : Nat) v908 [(z3.1, z3.2)]) fun z4 =>
   (tl_u61_2 N m (v45, (v46, (v66, (v67, ((IntKind.wrap .i64 (v68 + (1 : Int))), (t, (t2, (t3, (v5, (v52, (p, (p2, (l, (nodes, (h, (h2, (x, (x2, z4))))))))))))))))))))
  (some (v45, (v46, (t, (t2, (t3, (v5, (v52, (p, (p2, (l, (nodes, (h, (h2, (x, (x2, v908))))))))))))))))
theorem q_l_u61_2 (N : Nat) : ∀ (m : Nat) (v : Int × Int × (List Int) × Int × Int × (List Int) × (List Int) × (List (List Int)) × Int × Int × (List Int) × (List Int) × (List (Int × Int)) × (List (Int × (Int × (List (Int × Int))))) × Int × Int × Int × Int × (List (Int × Int))), l_u61_2 N m v = tl_u61_2 N m v
 | 0, _ => by kernel_rfl
 | m + 1, (v45, v46, v66, v67, v68, t, t2, t3, v5, v52, p, p2, l, nodes, h, h2, x, x2, v908) => by
   rw [l_u61_2_s, tl_u61_2, (fcP fcI (fcP fcI (fcP (fcL fcI) (fcP fcI (fcP fcI (fcP (fcL fcI) (fcP (fcL fcI) (fcP (fcL (fcL fcI)) (fcP fcI (fcP fcI (fcP (fcL fcI) (fcP (fcL fcI) (fcP (fcL (fcP fcI fcI)) (fcP (fcL (fcP fcI (fcP fcI (fcL (fcP fcI fcI))))) (fcP fcI (fcP fcI (fcP fcI (fcP fcI (fcL (fcP fcI fcI)))))))))))))))))))).ok]
   all_goals first | rfl | (simp only [bitI_eq, dem_D, q_l_u61_2 N m]; done) | (simp only [bitI_eq, dem_D, q_l_u61_2 N m]; rfl)
def tl_u61_1 (N : Nat) : Nat → Int × Int × (List Int) × (List Int) × (List (List Int)) × Int × Int × (List Int) × (List Int) × (List (Int × Int)) × (List (Int × (Int × (List (Int × Int))))) → Option (Int × Int × (List Int) × (List Int) × (List (Int × Int)) × (List (Int × (Int × (List (Int × Int))))))
 | 0, _ => none
 | m + 1, v => (fcP fcI (fcP fcI (fcP (fcL fcI) (fcP (fcL fcI) (fcP (fcL (fcL fcI)) (fcP fcI (fcP fcI (fcP (fcL fcI) (fcP (fcL fcI) (fcP (fcL (fcP fcI fcI)) (fcL (fcP fcI (fcP fcI (fcL (fcP fcI fcI))))))))))))))).f v fun (v45, v46, t, t2, t3, v5, v52, p, p2, l, nodes) => cond (decide (v46 < v45))
  (obind (nthI l v46) fun z1 =>
   obind (nthI l v46) fun z2 =>
   obind (nthI t v46) fun z3 =>
   obind (nthI t2 v46) fun z4 =>
   obind (nthI t3 v46) fun z5 =>
   obind (tl_u61_2 N N (v45, (v46, (z5, ((((List.length z5) : Nat) : Int), ((0 : Int), (t, (t2, (t3, (v5, (v52, (p, (p2, (l, (nodes, (z2.1, (z2.2, (z3, (z4, []))))))))))))))))))) fun z6 =>
   obind (nthI z6.2.2.2.2.2.2.2.2.2.2.1 z6.2.2.2.2.2.2.2.2.2.2.2.1) fun z7 =>
   obind (nthI z6.2.2.2.2.2.2.2.2.2.2.1 z6.2.2.2.2.2.2.2.2.2.2.2.1) fun z8 =>
   (tl_u61_1 N m (z6.1, ((IntKind.wrap .i64 (z6.2.1 + (1 : Int))), (z6.2.2.1, (z6.2.2.2.1, (z6.2.2.2.2.1, (z6.2.2.2.2.2.1, (z6.2.2.2.2.2.2.1, (z6.2.2.2.2.2.2.2.1, (z6.2.2.2.2.2.2.2.2.1, (z6.2.2.2.2.2.2.2.2.2.1, (List.set z6.2.2.2.2.2.2.2.2.2.2.1 (Int.toNat z6.2.2.2.2.2.2.2.2.2.2.2.1) (z6.2.2.2.2.2.2.2.2.2.2.2.2.2.1, (z6.2.2.2.2.2.2.2.2.2.2.2.2.2.2.1, z6.2.2.2.2.2.2.2.2.2.2.2.2.2.2.2)))))))))))))))
  (some (v5, (v52, (p, (p2, (l, nodes))))))
theorem q_l_u61_1 (N : Nat) : ∀ (m : Nat) (v : Int × Int × (List Int) × (List Int) × (List (List Int)) × Int × Int × (List Int) × (List Int) × (List (Int × Int)) × (List (Int × (Int × (List (Int × Int)))))), l_u61_1 N m v = tl_u61_1 N m v
 | 0, _ => by kernel_rfl
 | m + 1, (v45, v46, t, t2, t3, v5, v52, p, p2, l, nodes) => by
   rw [l_u61_1_s, tl_u61_1, (fcP fcI (fcP fcI (fcP (fcL fcI) (fcP (fcL fcI) (fcP (fcL (fcL fcI)) (fcP fcI (fcP fcI (fcP (fcL fcI) (fcP (fcL fcI) (fcP (fcL (fcP fcI fcI)) (fcL (fcP fcI (fcP fcI (fcL (fcP fcI fcI))))))))))))))).ok]
   all_goals first | rfl | (simp only [q_l_u61_2, bitI_eq, dem_D, q_l_u61_1 N m]; done) | (simp only [q_l_u61_2, bitI_eq, dem_D, q_l_u61_1 N m]; rfl)
def t_u61 : Nat → (List Int) × (List Int) × (List (Int × (Int × (List (Int × Int))))) × (List Int) × (List Int) × (List (List Int)) → Option (Int × (List Int) × (List Int) × (List (Int × (Int × (List (Int × Int))))) × Int × Int)
 | 0, _ => none
 | N + 1, v => (fcP (fcL fcI) (fcP (fcL fcI) (fcP (fcL (fcP fcI (fcP fcI (fcL (fcP fcI fcI))))) (fcP (fcL fcI) (fcP (fcL fcI) (fcL (fcL fcI))))))).f v fun (s, s2, s3, t, t2, t3) => obind (t_u39 N (s, (s2, s3))) fun z1 =>
 cond (!z1)
  (some ((1 : Int), (s, (s2, (s3, ((0 : Int), (0 : Int)))))))
  (obind (t_u44 N (t, (t2, t3))) fun z2 =>
   cond (!z2)
    (some ((1 : Int), (s, (s2, (s3, ((0 : Int), (0 : Int)))))))
    (obind (t_u42 N (s, (s2, (((List.length t) : Nat) : Int)))) fun z3 =>
     cond (!(decide (z3.1 = (0 : Int))))
      (some (z3.1, (s, (s2, (s3, ((0 : Int), (0 : Int)))))))
      (obind (t_u14 N s3) fun z4 =>
       obind (tl_u61_1 N N ((((List.length z3.2.2.2) : Nat) : Int), ((0 : Int), (t, (t2, (t3, ((0 : Int), ((0 : Int), (z3.2.1, (z3.2.2.1, (z3.2.2.2, z4))))))))))) fun z5 =>
       obind (nthI z5.2.2.2.2.1 (0 : Int)) fun z6 =>
       obind (nthI z5.2.2.2.2.1 (0 : Int)) fun z7 =>
       some ((0 : Int), (z5.2.2.1, (z5.2.2.2.1, (z5.2.2.2.2.2, (z7.1, z7.2))))))))
theorem q_m_u61 : ∀ (N : Nat) (v : (List Int) × (List Int) × (List (Int × (Int × (List (Int × Int))))) × (List Int) × (List Int) × (List (List Int))), m_u61 N v = t_u61 N v
 | 0, _ => by kernel_rfl
 | N + 1, (s, s2, s3, t, t2, t3) => by
   rw [m_u61_eq, t_u61, (fcP (fcL fcI) (fcP (fcL fcI) (fcP (fcL (fcP fcI (fcP fcI (fcL (fcP fcI fcI))))) (fcP (fcL fcI) (fcP (fcL fcI) (fcL (fcL fcI))))))).ok]
   all_goals first | rfl | (simp only [q_l_u61_1, q_m_u14, q_m_u39, q_m_u42, q_m_u44, bitI_eq, dem_D]; done) | (simp only [q_l_u61_1, q_m_u14, q_m_u39, q_m_u42, q_m_u44, bitI_eq, dem_D]; rfl)
def tl_u15_1 (N : Nat) : Nat → (List Int) × (List Int) × (List (Int × (Int × (List (Int × Int))))) × Int × Int × (List ((Int × Int) × Int)) × (List (Int × Int)) → Option (Int × (List Int) × (List Int) × (List (Int × (Int × (List (Int × Int))))) × (List ((Int × Int) × Int)) × (List (Int × Int)))
 | 0, _ => none
 | m + 1, v => (fcP (fcL fcI) (fcP (fcL fcI) (fcP (fcL (fcP fcI (fcP fcI (fcL (fcP fcI fcI))))) (fcP fcI (fcP fcI (fcP (fcL (fcP (fcP fcI fcI) fcI)) (fcL (fcP fcI fcI)))))))).f v fun (r, r2, r3, h, h2, v4294967297, v901) => cond (Option.isSome (mget (.pr (.i .i64) (.i .i64)) v4294967297 (h, h2)))
  (some ((Option.getD (mget (.pr (.i .i64) (.i .i64)) v4294967297 (h, h2)) (0 : Int)), (r, (r2, (r3, (v4294967297, v901))))))
  (obind (appI (16 : Nat) v901 [(h, h2)]) fun z1 =>
   obind (nthI r3 h) fun z2 =>
   obind (nthI z2.2.2 (0 : Int)) fun z3 =>
   (tl_u15_1 N m (r, (r2, (r3, (z3.1, (z3.2, ((mput (.pr (.i .i64) (.i .i64)) v4294967297 (h, h2) (((List.length v901) : Nat) : Int)), z1))))))))
theorem q_l_u15_1 (N : Nat) : ∀ (m : Nat) (v : (List Int) × (List Int) × (List (Int × (Int × (List (Int × Int))))) × Int × Int × (List ((Int × Int) × Int)) × (List (Int × Int))), l_u15_1 N m v = tl_u15_1 N m v
 | 0, _ => by kernel_rfl
 | m + 1, (r, r2, r3, h, h2, v4294967297, v901) => by
   rw [l_u15_1_s, tl_u15_1, (fcP (fcL fcI) (fcP (fcL fcI) (fcP (fcL (fcP fcI (fcP fcI (fcL (fcP fcI fcI))))) (fcP fcI (fcP fcI (fcP (fcL (fcP (fcP fcI fcI) fcI)) (fcL (fcP fcI fcI)))))))).ok]
   all_goals first | rfl | (simp only [bitI_eq, dem_D, q_l_u15_1 N m]; done) | (simp only [bitI_eq, dem_D, q_l_u15_1 N m]; rfl)
def t_u15 : Nat → Int × Int × (List Int) × (List Int) × (List (Int × (Int × (List (Int × Int))))) × (List ((Int × Int) × Int)) → Option (Int × (List Int) × (List Int) × (List (Int × (Int × (List (Int × Int))))) × (List ((Int × Int) × Int)) × (List (Int × Int)))
 | 0, _ => none
 | N + 1, v => (fcP fcI (fcP fcI (fcP (fcL fcI) (fcP (fcL fcI) (fcP (fcL (fcP fcI (fcP fcI (fcL (fcP fcI fcI))))) (fcL (fcP (fcP fcI fcI) fcI))))))).f v fun (h, h2, r, r2, r3, h3) => obind (tl_u15_1 N N (r, (r2, (r3, (h, (h2, (h3, []))))))) fun z1 =>
 some (z1.1, (z1.2.1, (z1.2.2.1, (z1.2.2.2.1, (z1.2.2.2.2.1, z1.2.2.2.2.2)))))
theorem q_m_u15 : ∀ (N : Nat) (v : Int × Int × (List Int) × (List Int) × (List (Int × (Int × (List (Int × Int))))) × (List ((Int × Int) × Int))), m_u15 N v = t_u15 N v
 | 0, _ => by kernel_rfl
 | N + 1, (h, h2, r, r2, r3, h3) => by
   rw [m_u15_eq, t_u15, (fcP fcI (fcP fcI (fcP (fcL fcI) (fcP (fcL fcI) (fcP (fcL (fcP fcI (fcP fcI (fcL (fcP fcI fcI))))) (fcL (fcP (fcP fcI fcI) fcI))))))).ok]
   all_goals first | rfl | (simp only [q_l_u15_1, bitI_eq, dem_D]; done) | (simp only [q_l_u15_1, bitI_eq, dem_D]; rfl)
def tl_u16_2 (N : Nat) : Nat → Int × Int × (List (Int × Int)) × Int × Int × (List Int) × (List Int) × (List (Int × (Int × (List (Int × Int))))) × Int × Int × (List (Int × Int)) × (List Int) × (List (Int × Int)) × (List ((Int × Int) × Int)) × (List Int) × (List Int) × (List (List Int)) → Option ((Int × Int × (List Int) × (List Int) × (List (Int × (Int × (List (Int × Int))))) × Int × Int × (List (Int × Int)) × (List Int) × (List (Int × Int)) × (List ((Int × Int) × Int)) × (List Int) × (List Int) × (List (List Int))) ⊕ (Bool × (List Int) × (List Int) × (List (Int × (Int × (List (Int × Int))))) × (List (Int × Int)) × (List ((Int × Int) × Int))))
 | 0, _ => none
 | m + 1, v => (fcP fcI (fcP fcI (fcP (fcL (fcP fcI fcI)) (fcP fcI (fcP fcI (fcP (fcL fcI) (fcP (fcL fcI) (fcP (fcL (fcP fcI (fcP fcI (fcL (fcP fcI fcI))))) (fcP fcI (fcP fcI (fcP (fcL (fcP fcI fcI)) (fcP (fcL fcI) (fcP (fcL (fcP fcI fcI)) (fcP (fcL (fcP (fcP fcI fcI) fcI)) (fcP (fcL fcI) (fcP (fcL fcI) (fcL (fcL fcI)))))))))))))))))).f v fun (v16, v17, v31, v32, v33, r, r2, r3, x, x2, x3, v7, v15, v4294967298, v903, v904, v905) => cond (decide (v33 < v32))
  (obind (nthI v31 v33) fun z1 =>
   cond (!(Option.isSome (mget (.pr (.i .i64) (.i .i64)) v4294967298 (z1.1, z1.2))))
    (some (.inr (false, (r, (r2, (r3, (v15, v4294967298)))))))
    (obind (appI (8 : Nat) v7 [(Option.getD (mget (.pr (.i .i64) (.i .i64)) v4294967298 (z1.1, z1.2)) (0 : Int))]) fun z2 =>
     (tl_u16_2 N m (v16, (v17, (v31, (v32, ((IntKind.wrap .i64 (v33 + (1 : Int))), (r, (r2, (r3, (x, (x2, (x3, (z2, (v15, (v4294967298, (v903, (v904, v905)))))))))))))))))))
  (some (.inl (v16, (v17, (r, (r2, (r3, (x, (x2, (x3, (v7, (v15, (v4294967298, (v903, (v904, v905)))))))))))))))
theorem q_l_u16_2 (N : Nat) : ∀ (m : Nat) (v : Int × Int × (List (Int × Int)) × Int × Int × (List Int) × (List Int) × (List (Int × (Int × (List (Int × Int))))) × Int × Int × (List (Int × Int)) × (List Int) × (List (Int × Int)) × (List ((Int × Int) × Int)) × (List Int) × (List Int) × (List (List Int))), l_u16_2 N m v = tl_u16_2 N m v
 | 0, _ => by kernel_rfl
 | m + 1, (v16, v17, v31, v32, v33, r, r2, r3, x, x2, x3, v7, v15, v4294967298, v903, v904, v905) => by
   rw [l_u16_2_s, tl_u16_2, (fcP fcI (fcP fcI (fcP (fcL (fcP fcI fcI)) (fcP fcI (fcP fcI (fcP (fcL fcI) (fcP (fcL fcI) (fcP (fcL (fcP fcI (fcP fcI (fcL (fcP fcI fcI))))) (fcP fcI (fcP fcI (fcP (fcL (fcP fcI fcI)) (fcP (fcL fcI) (fcP (fcL (fcP fcI fcI)) (fcP (fcL (fcP (fcP fcI fcI) fcI)) (fcP (fcL fcI) (fcP (fcL fcI) (fcL (fcL fcI)))))))))))))))))).ok]
   all_goals first | rfl | (simp only [bitI_eq, dem_D, q_l_u16_2 N m]; done) | (simp only [bitI_eq, dem_D, q_l_u16_2 N m]; rfl)
def tl_u16_1 (N : Nat) : Nat → Int × Int × (List Int) × (List Int) × (List (Int × (Int × (List (Int × Int))))) × (List (Int × Int)) × (List ((Int × Int) × Int)) × (List Int) × (List Int) × (List (List Int)) → Option (((List Int) × (List Int) × (List (Int × (Int × (List (Int × Int))))) × (List (Int × Int)) × (List ((Int × Int) × Int)) × (List Int) × (List Int) × (List (List Int))) ⊕ (Bool × (List Int) × (List Int) × (List (Int × (Int × (List (Int × Int))))) × (List (Int × Int)) × (List ((Int × Int) × Int))))
 | 0, _ => none
 | m + 1, v => (fcP fcI (fcP fcI (fcP (fcL fcI) (fcP (fcL fcI) (fcP (fcL (fcP fcI (fcP fcI (fcL (fcP fcI fcI))))) (fcP (fcL (fcP fcI fcI)) (fcP (fcL (fcP (fcP fcI fcI) fcI)) (fcP (fcL fcI) (fcP (fcL fcI) (fcL (fcL fcI))))))))))).f v fun (v16, v17, r, r2, r3, v15, v4294967298, v901, v902, v903) => cond (decide (v17 < v16))
  (obind (nthI v15 v17) fun z1 =>
   obind (nthI v15 v17) fun z2 =>
   obind (nthI r3 z2.1) fun z3 =>
   obind (tl_u16_2 N N (v16, (v17, (z3.2.2, ((((List.length z3.2.2) : Nat) : Int), ((0 : Int), (r, (r2, (r3, (z3.1, (z3.2.1, (z3.2.2, ([], (v15, (v4294967298, (v901, (v902, v903))))))))))))))))) fun z4 =>
   (match z4 with
   | .inl zy5 => obind (appI (8 : Nat) zy5.2.2.2.2.2.2.2.2.2.2.2.1 [zy5.2.2.2.2.2.1]) fun z6 =>
     obind (appI (8 : Nat) zy5.2.2.2.2.2.2.2.2.2.2.2.2.1 [zy5.2.2.2.2.2.2.1]) fun z7 =>
     obind (appI (24 : Nat) zy5.2.2.2.2.2.2.2.2.2.2.2.2.2 [zy5.2.2.2.2.2.2.2.2.1]) fun z8 =>
     (tl_u16_1 N m (zy5.1, ((IntKind.wrap .i64 (zy5.2.1 + (1 : Int))), (zy5.2.2.1, (zy5.2.2.2.1, (zy5.2.2.2.2.1, (zy5.2.2.2.2.2.2.2.2.2.1, (zy5.2.2.2.2.2.2.2.2.2.2.1, (z6, (z7, z8))))))))))
   | .inr zy9 => some (.inr (zy9.1, (zy9.2.1, (zy9.2.2.1, (zy9.2.2.2.1, (zy9.2.2.2.2.1, zy9.2.2.2.2.2))))))))
  (some (.inl (r, (r2, (r3, (v15, (v4294967298, (v901, (v902, v903)))))))))
theorem q_l_u16_1 (N : Nat) : ∀ (m : Nat) (v : Int × Int × (List Int) × (List Int) × (List (Int × (Int × (List (Int × Int))))) × (List (Int × Int)) × (List ((Int × Int) × Int)) × (List Int) × (List Int) × (List (List Int))), l_u16_1 N m v = tl_u16_1 N m v
 | 0, _ => by kernel_rfl
 | m + 1, (v16, v17, r, r2, r3, v15, v4294967298, v901, v902, v903) => by
   rw [l_u16_1_s, tl_u16_1, (fcP fcI (fcP fcI (fcP (fcL fcI) (fcP (fcL fcI) (fcP (fcL (fcP fcI (fcP fcI (fcL (fcP fcI fcI))))) (fcP (fcL (fcP fcI fcI)) (fcP (fcL (fcP (fcP fcI fcI) fcI)) (fcP (fcL fcI) (fcP (fcL fcI) (fcL (fcL fcI))))))))))).ok]
   all_goals first | rfl | (simp only [q_l_u16_2, bitI_eq, dem_D, q_l_u16_1 N m]; done) | (simp only [q_l_u16_2, bitI_eq, dem_D, q_l_u16_1 N m]; rfl)
def t_u16 : Nat → (List Int) × (List Int) × (List (Int × (Int × (List (Int × Int))))) × (List (Int × Int)) × (List ((Int × Int) × Int)) → Option (Bool × (List Int) × (List Int) × (List (List Int)) × (List (Int × Int)) × (List ((Int × Int) × Int)) × (List Int) × (List Int) × (List (Int × (Int × (List (Int × Int))))))
 | 0, _ => none
 | N + 1, v => (fcP (fcL fcI) (fcP (fcL fcI) (fcP (fcL (fcP fcI (fcP fcI (fcL (fcP fcI fcI))))) (fcP (fcL (fcP fcI fcI)) (fcL (fcP (fcP fcI fcI) fcI)))))).f v fun (r, r2, r3, h, h2) => obind (tl_u16_1 N N ((((List.length h) : Nat) : Int), ((0 : Int), (r, (r2, (r3, (h, (h2, ([], ([], [])))))))))) fun z1 =>
 (match z1 with
 | .inl zy2 => obind (t_u44 N (zy2.2.2.2.2.2.1, (zy2.2.2.2.2.2.2.1, zy2.2.2.2.2.2.2.2))) fun z3 =>
   cond (!z3)
    (some (false, ([], ([], ([], (zy2.2.2.2.1, (zy2.2.2.2.2.1, (zy2.1, (zy2.2.1, zy2.2.2.1)))))))))
    (some (true, (zy2.2.2.2.2.2.1, (zy2.2.2.2.2.2.2.1, (zy2.2.2.2.2.2.2.2, (zy2.2.2.2.1, (zy2.2.2.2.2.1, (zy2.1, (zy2.2.1, zy2.2.2.1)))))))))
 | .inr zy4 => some (zy4.1, ([], ([], ([], (zy4.2.2.2.2.1, (zy4.2.2.2.2.2, (zy4.2.1, (zy4.2.2.1, zy4.2.2.2.1)))))))))
theorem q_m_u16 : ∀ (N : Nat) (v : (List Int) × (List Int) × (List (Int × (Int × (List (Int × Int))))) × (List (Int × Int)) × (List ((Int × Int) × Int))), m_u16 N v = t_u16 N v
 | 0, _ => by kernel_rfl
 | N + 1, (r, r2, r3, h, h2) => by
   rw [m_u16_eq, t_u16, (fcP (fcL fcI) (fcP (fcL fcI) (fcP (fcL (fcP fcI (fcP fcI (fcL (fcP fcI fcI))))) (fcP (fcL (fcP fcI fcI)) (fcL (fcP (fcP fcI fcI) fcI)))))).ok]
   all_goals first | rfl | (simp only [q_l_u16_1, q_m_u44, bitI_eq, dem_D]; done) | (simp only [q_l_u16_1, q_m_u44, bitI_eq, dem_D]; rfl)
def t_u53 : Nat → (List Int) × (List Int) × (List (Int × (Int × (List (Int × Int))))) × Int × Int → Option (Int × (List Int) × (List Int) × (List (List Int)) × (List (Int × Int)))
 | 0, _ => none
 | N + 1, v => (fcP (fcL fcI) (fcP (fcL fcI) (fcP (fcL (fcP fcI (fcP fcI (fcL (fcP fcI fcI))))) (fcP fcI fcI)))).f v fun (s, s2, s3, h, h2) => obind (t_u39 N (s, (s2, s3))) fun z1 =>
 cond (!z1)
  (some ((1 : Int), ([], ([], ([], [])))))
  (obind (t_u58 N (s, (s2, (h, h2)))) fun z2 =>
   cond (!z2)
    (some ((3 : Int), ([], ([], ([], [])))))
    (obind (t_u15 N (h, (h2, (s, (s2, (s3, [])))))) fun z3 =>
     obind (t_u16 N (z3.2.1, (z3.2.2.1, (z3.2.2.2.1, (z3.2.2.2.2.2, z3.2.2.2.2.1))))) fun z4 =>
     cond (!(decide (z3.1 = (0 : Int))))
      (some ((8 : Int), ([], ([], ([], [])))))
      (cond (!z4.1)
        (some ((8 : Int), ([], ([], ([], [])))))
        (some ((0 : Int), (z4.2.1, (z4.2.2.1, (z4.2.2.2.1, z4.2.2.2.2.1))))))))
theorem q_m_u53 : ∀ (N : Nat) (v : (List Int) × (List Int) × (List (Int × (Int × (List (Int × Int))))) × Int × Int), m_u53 N v = t_u53 N v
 | 0, _ => by kernel_rfl
 | N + 1, (s, s2, s3, h, h2) => by
   rw [m_u53_eq, t_u53, (fcP (fcL fcI) (fcP (fcL fcI) (fcP (fcL (fcP fcI (fcP fcI (fcL (fcP fcI fcI))))) (fcP fcI fcI)))).ok]
   all_goals first | rfl | (simp only [q_m_u15, q_m_u16, q_m_u58, q_m_u39, bitI_eq, dem_D]; done) | (simp only [q_m_u15, q_m_u16, q_m_u58, q_m_u39, bitI_eq, dem_D]; rfl)
def t_u25 : Nat → Int × Int × Int → Option (Bool × Int)
 | 0, _ => none
 | N + 1, v => (fcP fcI (fcP fcI fcI)).f v fun (h, h2, v4294967296) => some ((decide (h = v4294967296)), v4294967296)
theorem q_m_u25 : ∀ (N : Nat) (v : Int × Int × Int), m_u25 N v = t_u25 N v
 | 0, _ => by kernel_rfl
 | N + 1, (h, h2, v4294967296) => by
   rw [m_u25_eq, t_u25, (fcP fcI (fcP fcI fcI)).ok]
   all_goals first | rfl | (simp only [bitI_eq, dem_D]; done) | (simp only [bitI_eq, dem_D]; rfl)
def tl_u5_1 (N : Nat) : Nat → (List (Int × Int)) × Int × Int × Int → Option ((Int) ⊕ (Int × Int))
 | 0, _ => none
 | m + 1, v => (fcP (fcL (fcP fcI fcI)) (fcP fcI (fcP fcI fcI))).f v fun (s, v7, v8, f) => cond (decide (v8 < v7))
  (obind (nthI s v8) fun z1 =>
   obind (t_u25 N (z1.1, (z1.2, f))) fun z2 =>
   cond z2.1
    (some (.inr (v8, z2.2)))
    ((tl_u5_1 N m (s, (v7, ((IntKind.wrap .i64 (v8 + (1 : Int))), z2.2))))))
  (some (.inl f))
theorem q_l_u5_1 (N : Nat) : ∀ (m : Nat) (v : (List (Int × Int)) × Int × Int × Int), l_u5_1 N m v = tl_u5_1 N m v
 | 0, _ => by kernel_rfl
 | m + 1, (s, v7, v8, f) => by
   rw [l_u5_1_s, tl_u5_1, (fcP (fcL (fcP fcI fcI)) (fcP fcI (fcP fcI fcI))).ok]
   all_goals first | rfl | (simp only [q_m_u25, bitI_eq, dem_D, q_l_u5_1 N m]; done) | (simp only [q_m_u25, bitI_eq, dem_D, q_l_u5_1 N m]; rfl)
def t_u5 : Nat → (List (Int × Int)) × Int → Option (Int × Int)
 | 0, _ => none
 | N + 1, v => (fcP (fcL (fcP fcI fcI)) fcI).f v fun (s, f) => obind (tl_u5_1 N N (s, ((((List.length s) : Nat) : Int), ((0 : Int), f)))) fun z1 =>
 (match z1 with
 | .inl zy2 => some ((-(1 : Int)), zy2)
 | .inr zy3 => some (zy3.1, zy3.2))
theorem q_m_u5 : ∀ (N : Nat) (v : (List (Int × Int)) × Int), m_u5 N v = t_u5 N v
 | 0, _ => by kernel_rfl
 | N + 1, (s, f) => by
   rw [m_u5_eq, t_u5, (fcP (fcL (fcP fcI fcI)) fcI).ok]
   all_goals first | rfl | (simp only [q_l_u5_1, bitI_eq, dem_D]; done) | (simp only [q_l_u5_1, bitI_eq, dem_D]; rfl)
def t_u1 : Nat → (List (Int × Int)) × Int → Option (Bool × Int)
 | 0, _ => none
 | N + 1, v => (fcP (fcL (fcP fcI fcI)) fcI).f v fun (s, f) => obind (t_u5 N (s, f)) fun z1 =>
 some ((decide ((0 : Int) ≤ z1.1)), z1.2)
theorem q_m_u1 : ∀ (N : Nat) (v : (List (Int × Int)) × Int), m_u1 N v = t_u1 N v
 | 0, _ => by kernel_rfl
 | N + 1, (s, f) => by
   rw [m_u1_eq, t_u1, (fcP (fcL (fcP fcI fcI)) fcI).ok]
   all_goals first | rfl | (simp only [q_m_u5, bitI_eq, dem_D]; done) | (simp only [q_m_u5, bitI_eq, dem_D]; rfl)
def tl_u13_1 (N : Nat) : Nat → (List (Int × Int)) × Int × Int × Int × Int → Option ((Unit) ⊕ (Int))
 | 0, _ => none
 | m + 1, v => (fcP (fcL (fcP fcI fcI)) (fcP fcI (fcP fcI (fcP fcI fcI)))).f v fun (s, v7, v8, v, v2) => cond (decide (v8 < v7))
  (obind (nthI s v8) fun z1 =>
   cond ((decide (v = z1.1)) && (decide (v2 = z1.2)))
    (some (.inr v8))
    ((tl_u13_1 N m (s, (v7, ((IntKind.wrap .i64 (v8 + (1 : Int))), (v, v2)))))))
  (some (.inl ()))
theorem q_l_u13_1 (N : Nat) : ∀ (m : Nat) (v : (List (Int × Int)) × Int × Int × Int × Int), l_u13_1 N m v = tl_u13_1 N m v
 | 0, _ => by kernel_rfl
 | m + 1, (s, v7, v8, v, v2) => by
   rw [l_u13_1_s, tl_u13_1, (fcP (fcL (fcP fcI fcI)) (fcP fcI (fcP fcI (fcP fcI fcI)))).ok]
   all_goals first | rfl | (simp only [bitI_eq, dem_D, q_l_u13_1 N m]; done) | (simp only [bitI_eq, dem_D, q_l_u13_1 N m]; rfl)
def t_u13 : Nat → (List (Int × Int)) × Int × Int → Option (Int)
 | 0, _ => none
 | N + 1, v => (fcP (fcL (fcP fcI fcI)) (fcP fcI fcI)).f v fun (s, v, v2) => obind (tl_u13_1 N N (s, ((((List.length s) : Nat) : Int), ((0 : Int), (v, v2))))) fun z1 =>
 (match z1 with
 | .inl zy2 => some (-(1 : Int))
 | .inr zy3 => some zy3)
theorem q_m_u13 : ∀ (N : Nat) (v : (List (Int × Int)) × Int × Int), m_u13 N v = t_u13 N v
 | 0, _ => by kernel_rfl
 | N + 1, (s, v, v2) => by
   rw [m_u13_eq, t_u13, (fcP (fcL (fcP fcI fcI)) (fcP fcI fcI)).ok]
   all_goals first | rfl | (simp only [q_l_u13_1, bitI_eq, dem_D]; done) | (simp only [q_l_u13_1, bitI_eq, dem_D]; rfl)
def t_u11 : Nat → (List (Int × Int)) × Int × Int → Option (Bool)
 | 0, _ => none
 | N + 1, v => (fcP (fcL (fcP fcI fcI)) (fcP fcI fcI)).f v fun (s, v, v2) => obind (t_u13 N (s, (v, v2))) fun z1 =>
 some (decide ((0 : Int) ≤ z1))
theorem q_m_u11 : ∀ (N : Nat) (v : (List (Int × Int)) × Int × Int), m_u11 N v = t_u11 N v
 | 0, _ => by kernel_rfl
 | N + 1, (s, v, v2) => by
   rw [m_u11_eq, t_u11, (fcP (fcL (fcP fcI fcI)) (fcP fcI fcI)).ok]
   all_goals first | rfl | (simp only [q_m_u13, bitI_eq, dem_D]; done) | (simp only [q_m_u13, bitI_eq, dem_D]; rfl)
def t_u26 : Nat → Int × Int × (List (Int × Int)) → Option (Bool × (List (Int × Int)))
 | 0, _ => none
 | N + 1, v => (fcP fcI (fcP fcI (fcL (fcP fcI fcI)))).f v fun (h, h2, v4294967296) => obind (t_u11 N (v4294967296, (h, h2))) fun z1 =>
 some (z1, v4294967296)
theorem q_m_u26 : ∀ (N : Nat) (v : Int × Int × (List (Int × Int))), m_u26 N v = t_u26 N v
 | 0, _ => by kernel_rfl
 | N + 1, (h, h2, v4294967296) => by
   rw [m_u26_eq, t_u26, (fcP fcI (fcP fcI (fcL (fcP fcI fcI)))).ok]
   all_goals first | rfl | (simp only [q_m_u11, bitI_eq, dem_D]; done) | (simp only [q_m_u11, bitI_eq, dem_D]; rfl)
def tl_u6_1 (N : Nat) : Nat → (List (Int × Int)) × Int × Int × (List (Int × Int)) → Option (((List (Int × Int))) ⊕ (Int × (List (Int × Int))))
 | 0, _ => none
 | m + 1, v => (fcP (fcL (fcP fcI fcI)) (fcP fcI (fcP fcI (fcL (fcP fcI fcI))))).f v fun (s, v7, v8, f) => cond (decide (v8 < v7))
  (obind (nthI s v8) fun z1 =>
   obind (t_u26 N (z1.1, (z1.2, f))) fun z2 =>
   cond z2.1
    (some (.inr (v8, z2.2)))
    ((tl_u6_1 N m (s, (v7, ((IntKind.wrap .i64 (v8 + (1 : Int))), z2.2))))))
  (some (.inl f))
theorem q_l_u6_1 (N : Nat) : ∀ (m : Nat) (v : (List (Int × Int)) × Int × Int × (List (Int × Int))), l_u6_1 N m v = tl_u6_1 N m v
 | 0, _ => by kernel_rfl
 | m + 1, (s, v7, v8, f) => by
   rw [l_u6_1_s, tl_u6_1, (fcP (fcL (fcP fcI fcI)) (fcP fcI (fcP fcI (fcL (fcP fcI fcI))))).ok]
   all_goals first | rfl | (simp only [q_m_u26, bitI_eq, dem_D, q_l_u6_1 N m]; done) | (simp only [q_m_u26, bitI_eq, dem_D, q_l_u6_1 N m]; rfl)
def t_u6 : Nat → (List (Int × Int)) × (List (Int × Int)) → Option (Int × (List (Int × Int)))
 | 0, _ => none
 | N + 1, v => (fcP (fcL (fcP fcI fcI)) (fcL (fcP fcI fcI))).f v fun (s, f) => obind (tl_u6_1 N N (s, ((((List.length s) : Nat) : Int), ((0 : Int), f)))) fun z1 =>
 (match z1 with
 | .inl zy2 => some ((-(1 : Int)), zy2)
 | .inr zy3 => some (zy3.1, zy3.2))
theorem q_m_u6 : ∀ (N : Nat) (v : (List (Int × Int)) × (List (Int × Int))), m_u6 N v = t_u6 N v
 | 0, _ => by kernel_rfl
 | N + 1, (s, f) => by
   rw [m_u6_eq, t_u6, (fcP (fcL (fcP fcI fcI)) (fcL (fcP fcI fcI))).ok]
   all_goals first | rfl | (simp only [q_l_u6_1, bitI_eq, dem_D]; done) | (simp only [q_l_u6_1, bitI_eq, dem_D]; rfl)
def t_u2 : Nat → (List (Int × Int)) × (List (Int × Int)) → Option (Bool × (List (Int × Int)))
 | 0, _ => none
 | N + 1, v => (fcP (fcL (fcP fcI fcI)) (fcL (fcP fcI fcI))).f v fun (s, f) => obind (t_u6 N (s, f)) fun z1 =>
 some ((decide ((0 : Int) ≤ z1.1)), z1.2)
theorem q_m_u2 : ∀ (N : Nat) (v : (List (Int × Int)) × (List (Int × Int))), m_u2 N v = t_u2 N v
 | 0, _ => by kernel_rfl
 | N + 1, (s, f) => by
   rw [m_u2_eq, t_u2, (fcP (fcL (fcP fcI fcI)) (fcL (fcP fcI fcI))).ok]
   all_goals first | rfl | (simp only [q_m_u6, bitI_eq, dem_D]; done) | (simp only [q_m_u6, bitI_eq, dem_D]; rfl)
def tl_u41_1 (N : Nat) : Nat → (List (Int × (Int × (List (Int × Int))))) × Int × Int × (List (Int × Int)) → Option ((Unit) ⊕ (Bool))
 | 0, _ => none
 | m + 1, v => (fcP (fcL (fcP fcI (fcP fcI (fcL (fcP fcI fcI))))) (fcP fcI (fcP fcI (fcL (fcP fcI fcI))))).f v fun (v9, v10, v11, l) => cond (decide (v11 < v10))
  (obind (nthI v9 v11) fun z1 =>
   obind (t_u1 N (l, v11)) fun z2 =>
   cond (!z2.1)
    (obind (t_u2 N (z1.2.2, l)) fun z3 =>
     cond z3.1
      (some (.inr true))
      ((tl_u41_1 N m (v9, (v10, ((IntKind.wrap .i64 (v11 + (1 : Int))), z3.2))))))
    ((tl_u41_1 N m (v9, (v10, ((IntKind.wrap .i64 (v11 + (1 : Int))), l))))))
  (some (.inl ()))
theorem q_l_u41_1 (N : Nat) : ∀ (m : Nat) (v : (List (Int × (Int × (List (Int × Int))))) × Int × Int × (List (Int × Int))), l_u41_1 N m v = tl_u41_1 N m v
 | 0, _ => by kernel_rfl
 | m + 1, (v9, v10, v11, l) => by
   rw [l_u41_1_s, tl_u41_1, (fcP (fcL (fcP fcI (fcP fcI (fcL (fcP fcI fcI))))) (fcP fcI (fcP fcI (fcL (fcP fcI fcI))))).ok]
   all_goals first | rfl | (simp only [q_m_u1, q_m_u2, bitI_eq, dem_D, q_l_u41_1 N m]; done) | (simp only [q_m_u1, q_m_u2, bitI_eq, dem_D, q_l_u41_1 N m]; rfl)
def t_u41 : Nat → (List Int) × (List Int) × (List (Int × (Int × (List (Int × Int))))) × (List (Int × Int)) → Option (Bool)
 | 0, _ => none
 | N + 1, v => (fcP (fcL fcI) (fcP (fcL fcI) (fcP (fcL (fcP fcI (fcP fcI (fcL (fcP fcI fcI))))) (fcL (fcP fcI fcI))))).f v fun (s, s2, s3, l) => obind (tl_u41_1 N N (s3, ((((List.length s3) : Nat) : Int), ((0 : Int), l)))) fun z1 =>
 (match z1 with
 | .inl zy2 => some false
 | .inr zy3 => some zy3)
theorem q_m_u41 : ∀ (N : Nat) (v : (List Int) × (List Int) × (List (Int × (Int × (List (Int × Int))))) × (List (Int × Int))), m_u41 N v = t_u41 N v
 | 0, _ => by kernel_rfl
 | N + 1, (s, s2, s3, l) => by
   rw [m_u41_eq, t_u41, (fcP (fcL fcI) (fcP (fcL fcI) (fcP (fcL (fcP fcI (fcP fcI (fcL (fcP fcI fcI))))) (fcL (fcP fcI fcI))))).ok]
   all_goals first | rfl | (simp only [q_l_u41_1, bitI_eq, dem_D]; done) | (simp only [q_l_u41_1, bitI_eq, dem_D]; rfl)
def t_u10 : Nat → (List (Int × Int)) → Option ((List (Int × Int)))
 | 0, _ => none
 | N + 1, v => (fcL (fcP fcI fcI)).f v fun (s) => some s
theorem q_m_u10 : ∀ (N : Nat) (v : (List (Int × Int))), m_u10 N v = t_u10 N v
 | 0, _ => by kernel_rfl
 | N + 1, (s) => by
   rw [m_u10_eq, t_u10, (fcL (fcP fcI fcI)).ok]
   all_goals first | rfl | (simp only [bitI_eq, dem_D]; done) | (simp only [bitI_eq, dem_D]; rfl)
def t_u57 : Nat → (List Int) × (List Int) × Int × Int → Option (Int × (List Int) × (List Int))
 | 0, _ => none
 | N + 1, v => (fcP (fcL fcI) (fcP (fcL fcI) (fcP fcI fcI))).f v fun (p, p2, h, h2) => obind (t_u45 N (p, p2)) fun z1 =>
 cond (!z1)
  (some ((1 : Int), (p, p2)))
  (obind (t_u58 N (p, (p2, (h, h2)))) fun z2 =>
   cond (!z2)
    (some ((3 : Int), (p, p2)))
    (obind (t_u21 N p2) fun z3 =>
     obind (appI (8 : Nat) z3 [h]) fun z4 =>
     some ((0 : Int), (p, z4))))
theorem q_m_u57 : ∀ (N : Nat) (v : (List Int) × (List Int) × Int × Int), m_u57 N v = t_u57 N v
 | 0, _ => by kernel_rfl
 | N + 1, (p, p2, h, h2) => by
   rw [m_u57_eq, t_u57, (fcP (fcL fcI) (fcP (fcL fcI) (fcP fcI fcI))).ok]
   all_goals first | rfl | (simp only [q_m_u58, q_m_u45, q_m_u21, bitI_eq, dem_D]; done) | (simp only [q_m_u58, q_m_u45, q_m_u21, bitI_eq, dem_D]; rfl)
def tl_u51_1 (N : Nat) : List (Int × (Int × Int)) → (List Int) × (List Int) × (List (Int × (Int × (List (Int × Int))))) → Option ((List Int) × (List Int) × (List (Int × (Int × (List (Int × Int))))))
 | [], v => (fcP (fcL fcI) (fcP (fcL fcI) (fcL (fcP fcI (fcP fcI (fcL (fcP fcI fcI))))))).f v fun (out, out2, v902) => some (out, (out2, v902))
 | (ri, (rc, rg)) :: rl, v => (fcP (fcL fcI) (fcP (fcL fcI) (fcL (fcP fcI (fcP fcI (fcL (fcP fcI fcI))))))).f v fun (out, out2, v902) => obind (t_u57 N (out, (out2, (rc, rg)))) fun z1 =>
 obind (nthI v902 rc) fun z2 =>
 obind (nthI v902 rc) fun z3 =>
 (tl_u51_1 N rl (z1.2.1, (z1.2.2, (List.set v902 (Int.toNat rc) ((0 : Int), ((0 : Int), []))))))
theorem q_l_u51_1 (N : Nat) : ∀ (l : List (Int × (Int × Int))) (v : (List Int) × (List Int) × (List (Int × (Int × (List (Int × Int)))))), l_u51_1 N l v = tl_u51_1 N l v
 | [], (out, out2, v902) => by
   rw [l_u51_1_z, tl_u51_1, (fcP (fcL fcI) (fcP (fcL fcI) (fcL (fcP fcI (fcP fcI (fcL (fcP fcI fcI))))))).ok]
 | (ri, (rc, rg)) :: rl, (out, out2, v902) => by
   rw [l_u51_1_s, tl_u51_1, (fcP (fcL fcI) (fcP (fcL fcI) (fcL (fcP fcI (fcP fcI (fcL (fcP fcI fcI))))))).ok]
   all_goals first | rfl | (simp only [q_m_u57, bitI_eq, dem_D, q_l_u51_1 N rl]; done) | (simp only [q_m_u57, bitI_eq, dem_D, q_l_u51_1 N rl]; rfl)
def t_u51 : Nat → (List Int) × (List Int) × (List (Int × (Int × (List (Int × Int))))) × Int × Int → Option (Int × (List Int) × (List Int) × (List (Int × (Int × (List (Int × Int))))))
 | 0, _ => none
 | N + 1, v => (fcP (fcL fcI) (fcP (fcL fcI) (fcP (fcL (fcP fcI (fcP fcI (fcL (fcP fcI fcI))))) (fcP fcI fcI)))).f v fun (s, s2, s3, h, h2) => obind (t_u53 N (s, (s2, (s3, (h, h2))))) fun z1 =>
 cond (!(decide (z1.1 = (0 : Int))))
  (some (z1.1, (s, (s2, s3))))
  (obind (t_u41 N (s, (s2, (s3, z1.2.2.2.2)))) fun z2 =>
   cond z2
    (some ((5 : Int), (s, (s2, s3))))
    (obind (t_u14 N s3) fun z3 =>
     obind (t_u10 N z1.2.2.2.2) fun z4 =>
     obind (tl_u51_1 N (bwI z4) (s, (s2, z3))) fun z5 =>
     some ((0 : Int), (z5.1, (z5.2.1, z5.2.2)))))
theorem q_m_u51 : ∀ (N : Nat) (v : (List Int) × (List Int) × (List (Int × (Int × (List (Int × Int))))) × Int × Int), m_u51 N v = t_u51 N v
 | 0, _ => by kernel_rfl
 | N + 1, (s, s2, s3, h, h2) => by
   rw [m_u51_eq, t_u51, (fcP (fcL fcI) (fcP (fcL fcI) (fcP (fcL (fcP fcI (fcP fcI (fcL (fcP fcI fcI))))) (fcP fcI fcI)))).ok]
   all_goals first | rfl | (simp only [q_l_u51_1, q_m_u10, q_m_u14, q_m_u53, q_m_u41, bitI_eq, dem_D]; done) | (simp only [q_l_u51_1, q_m_u10, q_m_u14, q_m_u53, q_m_u41, bitI_eq, dem_D]; rfl)
def tl_u46_1 (N : Nat) : Nat → (List Int) × (List Int) × Int → Option ((Unit) ⊕ (Bool))
 | 0, _ => none
 | m + 1, v => (fcP (fcL fcI) (fcP (fcL fcI) fcI)).f v fun (a, b, i) => cond (decide (i < (((List.length a) : Nat) : Int)))
  (obind (nthI a i) fun z1 =>
   obind (nthI b i) fun z2 =>
   cond (!(decide (z1 = z2)))
    (some (.inr false))
    ((tl_u46_1 N m (a, (b, (IntKind.wrap .i64 (i + (1 : Int))))))))
  (some (.inl ()))
theorem q_l_u46_1 (N : Nat) : ∀ (m : Nat) (v : (List Int) × (List Int) × Int), l_u46_1 N m v = tl_u46_1 N m v
 | 0, _ => by kernel_rfl
 | m + 1, (a, b, i) => by
   rw [l_u46_1_s, tl_u46_1, (fcP (fcL fcI) (fcP (fcL fcI) fcI)).ok]
   all_goals first | rfl | (simp only [bitI_eq, dem_D, q_l_u46_1 N m]; done) | (simp only [bitI_eq, dem_D, q_l_u46_1 N m]; rfl)
def t_u46 : Nat → (List Int) × (List Int) → Option (Bool)
 | 0, _ => none
 | N + 1, v => (fcP (fcL fcI) (fcL fcI)).f v fun (a, b) => cond (!(decide ((((List.length a) : Nat) : Int) = (((List.length b) : Nat) : Int))))
  (some false)
  (obind (tl_u46_1 N N (a, (b, (0 : Int)))) fun z1 =>
   (match z1 with
   | .inl zy2 => some true
   | .inr zy3 => some zy3))
theorem q_m_u46 : ∀ (N : Nat) (v : (List Int) × (List Int)), m_u46 N v = t_u46 N v
 | 0, _ => by kernel_rfl
 | N + 1, (a, b) => by
   rw [m_u46_eq, t_u46, (fcP (fcL fcI) (fcL fcI)).ok]
   all_goals first | rfl | (simp only [q_l_u46_1, bitI_eq, dem_D]; done) | (simp only [q_l_u46_1, bitI_eq, dem_D]; rfl)
def tl_u37_1 (N : Nat) : Nat → (List (List Int)) × (List (List Int)) × Int → Option ((Unit) ⊕ (Bool))
 | 0, _ => none
 | m + 1, v => (fcP (fcL (fcL fcI)) (fcP (fcL (fcL fcI)) fcI)).f v fun (a, b, i) => cond (decide (i < (((List.length a) : Nat) : Int)))
  (obind (nthI a i) fun z1 =>
   obind (nthI b i) fun z2 =>
   obind (t_u46 N (z1, z2)) fun z3 =>
   cond (!z3)
    (some (.inr false))
    ((tl_u37_1 N m (a, (b, (IntKind.wrap .i64 (i + (1 : Int))))))))
  (some (.inl ()))
theorem q_l_u37_1 (N : Nat) : ∀ (m : Nat) (v : (List (List Int)) × (List (List Int)) × Int), l_u37_1 N m v = tl_u37_1 N m v
 | 0, _ => by kernel_rfl
 | m + 1, (a, b, i) => by
   rw [l_u37_1_s, tl_u37_1, (fcP (fcL (fcL fcI)) (fcP (fcL (fcL fcI)) fcI)).ok]
   all_goals first | rfl | (simp only [q_m_u46, bitI_eq, dem_D, q_l_u37_1 N m]; done) | (simp only [q_m_u46, bitI_eq, dem_D, q_l_u37_1 N m]; rfl)
def t_u37 : Nat → (List (List Int)) × (List (List Int)) → Option (Bool)
 | 0, _ => none
 | N + 1, v => (fcP (fcL (fcL fcI)) (fcL (fcL fcI))).f v fun (a, b) => cond (!(decide ((((List.length a) : Nat) : Int) = (((List.length b) : Nat) : Int))))
  (some false)
  (obind (tl_u37_1 N N (a, (b, (0 : Int)))) fun z1 =>
   (match z1 with
   | .inl zy2 => some true
   | .inr zy3 => some zy3))
theorem q_m_u37 : ∀ (N : Nat) (v : (List (List Int)) × (List (List Int))), m_u37 N v = t_u37 N v
 | 0, _ => by kernel_rfl
 | N + 1, (a, b) => by
   rw [m_u37_eq, t_u37, (fcP (fcL (fcL fcI)) (fcL (fcL fcI))).ok]
   all_goals first | rfl | (simp only [q_l_u37_1, bitI_eq, dem_D]; done) | (simp only [q_l_u37_1, bitI_eq, dem_D]; rfl)
def t_u48 : Nat → (List Int) × (List Int) × (List (List Int)) × (List Int) × (List Int) × (List (List Int)) → Option (Bool)
 | 0, _ => none
 | N + 1, v => (fcP (fcL fcI) (fcP (fcL fcI) (fcP (fcL (fcL fcI)) (fcP (fcL fcI) (fcP (fcL fcI) (fcL (fcL fcI))))))).f v fun (a, a2, a3, b, b2, b3) => obind (t_u46 N (a, b)) fun z1 =>
 cond z1
  (obind (t_u46 N (a2, b2)) fun z2 =>
   cond z2
    (obind (t_u37 N (a3, b3)) fun z3 =>
     some z3)
    (some false))
  (some false)
theorem q_m_u48 : ∀ (N : Nat) (v : (List Int) × (List Int) × (List (List Int)) × (List Int) × (List Int) × (List (List Int))), m_u48 N v = t_u48 N v
 | 0, _ => by kernel_rfl
 | N + 1, (a, a2, a3, b, b2, b3) => by
   rw [m_u48_eq, t_u48, (fcP (fcL fcI) (fcP (fcL fcI) (fcP (fcL (fcL fcI)) (fcP (fcL fcI) (fcP (fcL fcI) (fcL (fcL fcI))))))).ok]
   all_goals first | rfl | (simp only [q_m_u46, q_m_u37, bitI_eq, dem_D]; done) | (simp only [q_m_u46, q_m_u37, bitI_eq, dem_D]; rfl)
def tl_u28_1 (N : Nat) : Nat → (List (Int × Int)) × (List (Int × Int)) × Int → Option ((Unit) ⊕ (Bool))
 | 0, _ => none
 | m + 1, v => (fcP (fcL (fcP fcI fcI)) (fcP (fcL (fcP fcI fcI)) fcI)).f v fun (a, b, i) => cond (decide (i < (((List.length a) : Nat) : Int)))
  (obind (nthI a i) fun z1 =>
   obind (nthI b i) fun z2 =>
   cond (!((decide (z1.1 = z2.1)) && (decide (z1.2 = z2.2))))
    (some (.inr false))
    ((tl_u28_1 N m (a, (b, (IntKind.wrap .i64 (i + (1 : Int))))))))
  (some (.inl ()))
theorem q_l_u28_1 (N : Nat) : ∀ (m : Nat) (v : (List (Int × Int)) × (List (Int × Int)) × Int), l_u28_1 N m v = tl_u28_1 N m v
 | 0, _ => by kernel_rfl
 | m + 1, (a, b, i) => by
   rw [l_u28_1_s, tl_u28_1, (fcP (fcL (fcP fcI fcI)) (fcP (fcL (fcP fcI fcI)) fcI)).ok]
   all_goals first | rfl | (simp only [bitI_eq, dem_D, q_l_u28_1 N m]; done) | (simp only [bitI_eq, dem_D, q_l_u28_1 N m]; rfl)
def t_u28 : Nat → (List (Int × Int)) × (List (Int × Int)) → Option (Bool)
 | 0, _ => none
 | N + 1, v => (fcP (fcL (fcP fcI fcI)) (fcL (fcP fcI fcI))).f v fun (a, b) => cond (!(decide ((((List.length a) : Nat) : Int) = (((List.length b) : Nat) : Int))))
  (some false)
  (obind (tl_u28_1 N N (a, (b, (0 : Int)))) fun z1 =>
   (match z1 with
   | .inl zy2 => some true
   | .inr zy3 => some zy3))
theorem q_m_u28 : ∀ (N : Nat) (v : (List (Int × Int)) × (List (Int × Int))), m_u28 N v = t_u28 N v
 | 0, _ => by kernel_rfl
 | N + 1, (a, b) => by
   rw [m_u28_eq, t_u28, (fcP (fcL (fcP fcI fcI)) (fcL (fcP fcI fcI))).ok]
   all_goals first | rfl | (simp only [q_l_u28_1, bitI_eq, dem_D]; done) | (simp only [q_l_u28_1, bitI_eq, dem_D]; rfl)
def t_u32 : Nat → Unit → Option (Bool)
 | 0, _ => none
 | N + 1, v => fcU.f v fun _ => obind (t_u35 N ([(4 : Int), (7 : Int)], [(1 : Int), (2 : Int)])) fun z1 =>
 obind (t_u35 N ([(9 : Int)], [(3 : Int)])) fun z2 =>
 obind (t_u52 N (3 : Int)) fun z3 =>
 obind (t_u61 N (z3.2.1, (z3.2.2.1, (z3.2.2.2, (z1.2.1, (z1.2.2.1, z1.2.2.2)))))) fun z4 =>
 obind (t_u61 N (z4.2.1, (z4.2.2.1, (z4.2.2.2.1, (z2.2.1, (z2.2.2.1, z2.2.2.2)))))) fun z5 =>
 obind (t_u61 N (z5.2.1, (z5.2.2.1, (z5.2.2.2.1, (z2.2.1, (z2.2.2.1, z2.2.2.2)))))) fun z6 =>
 obind (t_u53 N (z5.2.1, (z5.2.2.1, (z5.2.2.2.1, ((1 : Int), (1 : Int)))))) fun z7 =>
 obind (t_u51 N (z5.2.1, (z5.2.2.1, (z5.2.2.2.1, (z4.2.2.2.2.1, z4.2.2.2.2.2))))) fun z8 =>
 obind (t_u53 N (z8.2.1, (z8.2.2.1, (z8.2.2.2, (z4.2.2.2.2.1, z4.2.2.2.2.2))))) fun z9 =>
 obind (t_u53 N (z8.2.1, (z8.2.2.1, (z8.2.2.2, (z5.2.2.2.2.1, z5.2.2.2.2.2))))) fun z10 =>
 cond (!(decide (z3.1 = (0 : Int))))
  (some false)
  (cond (!(decide (z4.1 = (0 : Int))))
    (some false)
    (cond (!(decide (z5.1 = (0 : Int))))
      (some false)
      (cond (!(decide (z6.1 = (2 : Int))))
        (some false)
        (cond (!(decide (z7.1 = (0 : Int))))
          (some false)
          (cond (!(decide (z8.1 = (0 : Int))))
            (some false)
            (cond (!(decide (z9.1 = (3 : Int))))
              (some false)
              (cond (!(decide (z10.1 = (0 : Int))))
                (some false)
                (cond (!(decide ((((List.length z7.2.2.2.2) : Nat) : Int) = (2 : Int))))
                  (some false)
                  (cond (!(decide ((((List.length z10.2.2.2.2) : Nat) : Int) = (1 : Int))))
                    (some false)
                    (cond (!(decide ((((List.length z5.2.2.2.1) : Nat) : Int) = (3 : Int))))
                      (some false)
                      (cond ((decide (z4.2.2.2.2.1 = (0 : Int))) && (decide (z4.2.2.2.2.2 = (1 : Int))))
                        (cond ((decide (z5.2.2.2.2.1 = (2 : Int))) && (decide (z5.2.2.2.2.2 = (1 : Int))))
                          (obind (t_u46 N (z7.2.1, [(7 : Int), (4 : Int)])) fun z11 =>
                           cond z11
                            (obind (t_u48 N (z10.2.1, (z10.2.2.1, (z10.2.2.2.1, (z2.2.1, (z2.2.2.1, z2.2.2.2)))))) fun z12 =>
                             cond z12
                              (obind (nthI z5.2.2.2.1 (1 : Int)) fun z13 =>
                               obind (t_u28 N (z13.2.2, [((0 : Int), (1 : Int)), ((1 : Int), (1 : Int))])) fun z14 =>
                               cond z14
                                (obind (t_u46 N (z8.2.2.1, [(1 : Int), (0 : Int)])) fun z15 =>
                                 cond z15
                                  (obind (t_u39 N (z8.2.1, (z8.2.2.1, z8.2.2.2))) fun z16 =>
                                   cond z16
                                    (obind (t_u39 N ([], ([], []))) fun z17 =>
                                     some (!z17))
                                    (some false))
                                  (some false))
                                (some false))
                              (some false))
                            (some false))
                          (some false))
                        (some false))))))))))))
theorem q_m_u32 : ∀ (N : Nat) (v : Unit), m_u32 N v = t_u32 N v
 | 0, _ => by kernel_rfl
 | N + 1, _ => by
   rw [m_u32_eq, t_u32, fcU.ok]
   all_goals first | rfl | (simp only [q_m_u46, q_m_u35, q_m_u48, q_m_u28, q_m_u51, q_m_u52, q_m_u61, q_m_u53, q_m_u39, bitI_eq, dem_D]; done) | (simp only [q_m_u46, q_m_u35, q_m_u48, q_m_u28, q_m_u51, q_m_u52, q_m_u61, q_m_u53, q_m_u39, bitI_eq, dem_D]; rfl)
end
end Go.Proofs.Ytdahghkmejnlgaa
end
noncomputable section
namespace Go.Proofs.Ytdahghkmejnlgaa
open Go Go.RowKit
set_option maxRecDepth 100000
theorem alive30_k (N : Nat) : t_u32 (N + 100) () = some true := by kernel_rfl
theorem alive30 {N : Nat} (h : Fu ≤ N) : m_u32 N () = some true := by
 obtain ⟨M, rfl⟩ : ∃ M, N = M + 100 := ⟨N - 100, by rw [Fu_eq] at h; omega⟩
 rw [q_m_u32]
 exact alive30_k M
end Go.Proofs.Ytdahghkmejnlgaa
end
noncomputable section
set_option linter.unusedVariables false
set_option linter.unusedSimpArgs false
namespace Go.Proofs.Ytdahghkmejnlgaa
open Go Go.RowKit
theorem handles_loop (N : Nat) (a b : List Hd) (hl : a.length = b.length) (hm : a.length ≤ 9223372036854775807) : ∀ (k i m : Nat), i + k = a.length → k < m →
   l_u28_1 N m (a, b, (i : Int)) = some (if a.drop i = b.drop i then .inl () else .inr false)
 | k, i, 0, h1, h2 => by omega
 | 0, i, m + 1, h1, h2 => by
   rw [l_u28_1_s, cd, if_neg (by omega), List.drop_eq_nil_of_le (by omega), List.drop_eq_nil_of_le (by omega), if_pos rfl]
 | k + 1, i, m + 1, h1, h2 => by
   obtain ⟨x, hx⟩ := get_at (xs := a) (i := i) (by omega)
   obtain ⟨y, hy⟩ := get_at (xs := b) (i := i) (by omega)
   rw [l_u28_1_s, cd, if_pos (by omega), nth_of hx, ob, nth_of hy, ob, hd_eq x y, cdn, w64n (by omega), handles_loop N a b hl hm k (i + 1) m (by omega) (by omega), drop_at hx, drop_at hy]
   by_cases e : x = y
   · rw [if_pos e]; simp [e]
   · rw [if_neg e, if_neg (by simp [e])]
theorem handles_eq (N : Nat) (hN : Fu + 1 ≤ N) (a b : List Hd) (hm : a.length ≤ 9223372036854775807) : m_u28 N (a, b) = some (decide (a = b)) := by
 obtain ⟨N, rfl⟩ : ∃ n, N = n + 1 := ⟨N - 1, by omega⟩
 rw [m_u28_eq, cdn]
 by_cases hl : a.length = b.length
 · rw [if_pos (by omega), show ((0 : Int) = ((0 : Nat) : Int)) from rfl, handles_loop N a b hl hm a.length 0 N (by omega) (by have := Fu_eq; omega), ob, List.drop_zero, List.drop_zero]
   by_cases h : a = b <;> simp [h]
 · rw [if_neg (by omega)]
   have : ¬ a = b := fun e => hl (by rw [e])
   simp [this]
theorem psame_eq (N : Nat) (hN : Fu + 2 ≤ N) (a a2 b b2 : List Int) (h1 : a.length ≤ 9223372036854775807) (h2 : a2.length ≤ 9223372036854775807) : m_u47 N (a, a2, b, b2) = some (decide (a = b ∧ a2 = b2)) := by
 obtain ⟨N, rfl⟩ : ∃ n, N = n + 1 := ⟨N - 1, by omega⟩
 rw [m_u47_eq, ints_eq N (by omega) _ _ h1, ob, ints_eq N (by omega) _ _ h2, ob, cd]
 by_cases h : a = b <;> simp [h]
theorem ssame_loop (N : Nat) (hN : Fu + 1 ≤ N) (g f g2 f2 : List Int) (a b : List Nd) (hl : a.length = b.length) (ha : LN a) : ∀ (k i m : Nat), i + k = a.length → k < m →
   l_u49_1 N m ((i : Int), g, f, a, g2, f2, b) = some (if a.drop i = b.drop i then .inl () else .inr false)
 | k, i, 0, h1, h2 => by omega
 | 0, i, m + 1, h1, h2 => by
   rw [l_u49_1_s, cd, if_neg (by omega), List.drop_eq_nil_of_le (by omega), List.drop_eq_nil_of_le (by omega), if_pos rfl]
 | k + 1, i, m + 1, h1, h2 => by
   obtain ⟨x, hx⟩ := get_at (xs := a) (i := i) (by omega)
   obtain ⟨y, hy⟩ := get_at (xs := b) (i := i) (by omega)
   have hil := ha.1
   rw [l_u49_1_s, cd, if_pos (by omega), nth_of hx, ob, nth_of hy, ob, cdn, cdn, handles_eq N hN _ _ (ha.2 x (List.mem_of_getElem? hx)), ob, cdn, w64n (by omega), ssame_loop N hN g f g2 f2 a b hl ha k (i + 1) m (by omega) (by omega), drop_at hx, drop_at hy]
   obtain ⟨x1, x2, x3⟩ := x
   obtain ⟨y1, y2, y3⟩ := y
   by_cases e1 : x1 = y1
   · by_cases e2 : x2 = y2
     · by_cases e3 : x3 = y3
       · rw [if_pos e1, if_pos e2, if_pos e3]; simp [e1, e2, e3]
       · rw [if_pos e1, if_pos e2, if_neg e3, if_neg (by simp [e3])]
     · rw [if_pos e1, if_neg e2, if_neg (by simp [e2])]
   · rw [if_neg e1, if_neg (by simp [e1])]
theorem ssame_eq (N : Nat) (hN : Fu + 3 ≤ N) (g f g2 f2 : List Int) (a b : List Nd) (h1 : g.length ≤ 9223372036854775807) (h2 : f.length ≤ 9223372036854775807) (ha : LN a) : m_u49 N (g, f, a, g2, f2, b) = some (decide (g = g2 ∧ f = f2 ∧ a = b)) := by
 obtain ⟨N, rfl⟩ : ∃ n, N = n + 1 := ⟨N - 1, by omega⟩
 rw [m_u49_eq, psame_eq N (by omega) _ _ _ _ h1 h2, ob, cdn, cdn]
 by_cases hp : g = g2 ∧ f = f2
 · rw [if_pos hp]
   by_cases hl : a.length = b.length
   · rw [if_pos (by omega), show ((0 : Int) = ((0 : Nat) : Int)) from rfl, ssame_loop N (by omega) g f g2 f2 a b hl ha a.length 0 N (by omega) (by have := Fu_eq; have := ha.1; omega), ob, List.drop_zero, List.drop_zero]
     by_cases h : a = b <;> simp [h, hp]
   · rw [if_neg (by omega)]
     have : ¬ a = b := fun e => hl (by rw [e])
     simp [this]
 · rw [if_neg hp]
   have : ¬ (g = g2 ∧ f = f2 ∧ a = b) := fun q => hp ⟨q.1, q.2.1⟩
   simp [this]
theorem sgreat_loop (N : Nat) (g f : List Int) (ns : List Nd) (hn : ns.length ≤ 9223372036854775807) : ∀ (k i m : Nat) (n : Int), i + k = ns.length → k < m → ∃ r, l_u38_1 N m (n, (i : Int), g, f, ns) = some r
 | k, i, 0, n, h1, h2 => by omega
 | 0, i, m + 1, n, h1, h2 => by
   rw [l_u38_1_s, cd, if_neg (by omega)]; exact ⟨_, rfl⟩
 | k + 1, i, m + 1, n, h1, h2 => by
   obtain ⟨x, hx⟩ := get_at (xs := ns) (i := i) (by omega)
   rw [l_u38_1_s, cd, if_pos (by omega), cd]
   by_cases h : n ≤ 200
   · rw [if_pos h, nth_of hx, ob, w64n (by omega)]
     exact sgreat_loop N g f ns hn k (i + 1) m _ (by omega) (by omega)
   · rw [if_neg h]; exact ⟨_, rfl⟩
theorem sgreat_ex (N : Nat) (hN : Fu + 1 ≤ N) (g f : List Int) (ns : List Nd) (hn : ns.length ≤ 9223372036854775807) : ∃ b, m_u38 N (g, f, ns) = some b := by
 obtain ⟨N, rfl⟩ : ∃ n, N = n + 1 := ⟨N - 1, by omega⟩
 obtain ⟨r, hr⟩ := sgreat_loop N g f ns hn ns.length 0 N (IntKind.wrap .i64 ((IntKind.wrap .i64 (((g.length : Nat) : Int) + ((f.length : Nat) : Int))) + ((ns.length : Nat) : Int))) (by omega) (by have := Fu_eq; omega)
 rw [m_u38_eq, show ((0 : Int) = ((0 : Nat) : Int)) from rfl, hr, ob]
 exact ⟨_, rfl⟩
end Go.Proofs.Ytdahghkmejnlgaa
end
noncomputable section
set_option linter.unusedVariables false
set_option linter.unusedSimpArgs false
namespace Go.Proofs.Ytdahghkmejnlgaa
open Go Go.RowKit
def takeN : Nat → List Int → List Int → Int × List Int × List Int × List Hd
 | 0, g, f => (0, g, f, [])
 | k + 1, g, f =>
   if (takeP g f).1 = 0 then
     if (takeN k (takeP g f).2.1 (takeP g f).2.2.1).1 = 0 then (0, (takeN k (takeP g f).2.1 (takeP g f).2.2.1).2.1, (takeN k (takeP g f).2.1 (takeP g f).2.2.1).2.2.1, (takeP g f).2.2.2 :: (takeN k (takeP g f).2.1 (takeP g f).2.2.1).2.2.2)
     else ((takeN k (takeP g f).2.1 (takeP g f).2.2.1).1, (takeN k (takeP g f).2.1 (takeP g f).2.2.1).2.1, (takeN k (takeP g f).2.1 (takeP g f).2.2.1).2.2.1, [])
   else ((takeP g f).1, (takeP g f).2.1, (takeP g f).2.2.1, [])
theorem takeN_s {k : Nat} {g f : List Int} (h1 : (takeP g f).1 = 0) (h2 : (takeN k (takeP g f).2.1 (takeP g f).2.2.1).1 = 0) : takeN (k + 1) g f = (0, (takeN k (takeP g f).2.1 (takeP g f).2.2.1).2.1, (takeN k (takeP g f).2.1 (takeP g f).2.2.1).2.2.1, (takeP g f).2.2.2 :: (takeN k (takeP g f).2.1 (takeP g f).2.2.1).2.2.2) := by
 rw [takeN, if_pos h1, if_pos h2]
theorem takeN_l {k : Nat} {g f : List Int} (h1 : (takeP g f).1 = 0) (h2 : ¬ (takeN k (takeP g f).2.1 (takeP g f).2.2.1).1 = 0) : takeN (k + 1) g f = ((takeN k (takeP g f).2.1 (takeP g f).2.2.1).1, (takeN k (takeP g f).2.1 (takeP g f).2.2.1).2.1, (takeN k (takeP g f).2.1 (takeP g f).2.2.1).2.2.1, []) := by
 rw [takeN, if_pos h1, if_neg h2]
theorem takeN_f {k : Nat} {g f : List Int} (h1 : ¬ (takeP g f).1 = 0) : takeN (k + 1) g f = ((takeP g f).1, (takeP g f).2.1, (takeP g f).2.2.1, []) := by
 rw [takeN, if_neg h1]
theorem taken_loop (N : Nat) (hN : Fu + 3 ≤ N) (n : Nat) (hn : n ≤ 1000) : ∀ (k i m : Nat) (g f : List Int) (l : List Hd), i + k = n → k < m → l.length ≤ i → g.length ≤ 9223372036854775807 → f.length ≤ 9223372036854775807 →
   l_u42_1 N m ((n : Int), (i : Int), g, f, l) = some (if (takeN k g f).1 = 0 then .inl ((takeN k g f).2.1, (takeN k g f).2.2.1, l ++ (takeN k g f).2.2.2) else .inr ((takeN k g f).1, (takeN k g f).2.1, (takeN k g f).2.2.1))
 | k, i, 0, g, f, l, h1, h2, _, _, _ => by omega
 | 0, i, m + 1, g, f, l, h1, h2, _, _, _ => by rw [l_u42_1_s, cd, if_neg (by omega)]; simp [takeN]
 | k + 1, i, m + 1, g, f, l, h1, h2, h3, hg, hf => by
   obtain ⟨l1, l2⟩ := takeP_len g f
   rw [l_u42_1_s, cd, if_pos (by omega), take_eq N hN g f hg hf, ob, cdn]
   by_cases h0 : (takeP g f).1 = 0
   · rw [if_pos h0, app_of (by omega) (by simp; omega), ob, w64n (by omega), taken_loop N hN n hn k (i + 1) m _ _ _ (by omega) (by omega) (by simp; omega) (by omega) (by omega)]
     by_cases h4 : (takeN k (takeP g f).2.1 (takeP g f).2.2.1).1 = 0
     · rw [if_pos h4, takeN_s h0 h4, if_pos rfl]; simp
     · rw [if_neg h4, takeN_l h0 h4, if_neg h4]
   · rw [if_neg h0, takeN_f h0, if_neg h0]
theorem taken_neq (N : Nat) (hN : Fu + 4 ≤ N) (n : Nat) (hn : n ≤ 1000) (g f : List Int) (hg : g.length ≤ 9223372036854775807) (hf : f.length ≤ 9223372036854775807) : ∃ r, m_u42 N (g, f, (n : Int)) = some r ∧ r.1 = (takeN n g f).1 ∧ (r.1 = 0 → r = takeN n g f) := by
 obtain ⟨N, rfl⟩ : ∃ n, N = n + 1 := ⟨N - 1, by omega⟩
 rw [m_u42_eq, show ((0 : Int) = ((0 : Nat) : Int)) from rfl, taken_loop N (by omega) n hn n 0 N g f [] (by omega) (by have := Fu_eq; omega) (by simp) hg hf, ob]
 by_cases h : (takeN n g f).1 = 0
 · rw [if_pos h]
   refine ⟨_, rfl, h.symm, fun _ => ?_⟩
   simp only [List.nil_append]
   exact Prod.ext h.symm rfl
 · rw [if_neg h]
   exact ⟨_, rfl, rfl, fun q => absurd q h⟩
structure TakeOk (k : Nat) (g f : List Int) (r : Int × List Int × List Int × List Hd) : Prop where
 len : r.2.2.2.length = k
 free : f = r.2.2.1 ++ (r.2.2.2.map (·.1)).reverse
 gens : r.2.1.length = g.length
 same : ∀ c : Nat, (c : Int) ∉ r.2.2.2.map (·.1) → r.2.1.getD c 0 = g.getD c 0
 cell : ∀ h ∈ r.2.2.2, 0 ≤ h.1 ∧ h.1 < g.length ∧ r.2.1.getD h.1.toNat 0 = h.2 ∧ h.2 = g.getD h.1.toNat 0 + 1
 right : rightB r.2.1 r.2.2.1 = true
theorem getD_set_ne {l : List Int} {c d : Nat} {x : Int} (h : c ≠ d) : (l.set c x).getD d 0 = l.getD d 0 := by
 simp [List.getD, List.getElem?_set_ne h]
theorem takeN_ok : ∀ (k : Nat) {g f : List Int}, rightB g f = true → (takeN k g f).1 = 0 → TakeOk k g f (takeN k g f)
 | 0, g, f, h, _ => ⟨rfl, by simp [takeN], rfl, fun _ _ => rfl, by simp [takeN], h⟩
 | k + 1, g, f, h, h0 => by
   by_cases h1 : (takeP g f).1 = 0
   · by_cases h2 : (takeN k (takeP g f).2.1 (takeP g f).2.2.1).1 = 0
     · rw [takeN_s h1 h2]
       have h3 : ∃ c, f.getLast? = some c ∧ g.getD c.toNat 0 ≠ 1073741824 := by
         unfold takeP at h1
         rw [if_pos h] at h1
         split at h1
         · cases h1
         · rename_i c hc
           split at h1
           · cases h1
           · exact ⟨c, hc, by assumption⟩
       obtain ⟨c, hc, hcg⟩ := h3
       obtain ⟨e, c0, c1, cn, hr⟩ := takeP_ok h hc hcg
       have ih := takeN_ok k (g := (takeP g f).2.1) (f := (takeP g f).2.2.1) (by rw [e]; exact hr) h2
       rw [e] at ih ⊢
       simp only at ih ⊢
       have hf := dropLast_last hc
       have hct : ((c.toNat : Nat) : Int) = c := by omega
       have hnl : c ∉ (takeN k (g.set c.toNat (g.getD c.toNat 0 + 1)) f.dropLast).2.2.2.map (·.1) := fun hm => cn (by rw [ih.free]; simp only [List.mem_append, List.mem_reverse]; exact .inr hm)
       refine ⟨by rw [List.length_cons, ih.len], ?_, by rw [ih.gens, List.length_set], fun d hd => ?_, fun x hx => ?_, ih.right⟩
       · simp only [List.map_cons, List.reverse_cons]
         rw [← List.append_assoc, ← ih.free]; exact hf
       · simp only [List.map_cons, List.mem_cons, not_or] at hd
         rw [ih.same d hd.2, getD_set_ne (by omega)]
       · rcases List.mem_cons.1 hx with rfl | hx
         · refine ⟨c0, c1, ?_, rfl⟩
           have := ih.same c.toNat (by rw [hct]; exact hnl)
           rw [this, getD_set (by omega)]
         · obtain ⟨a, b, p, q⟩ := ih.cell x hx
           rw [List.length_set] at b
           refine ⟨a, b, p, ?_⟩
           have : x.1 ≠ c := fun e => by
             have q : x.1 ∈ (takeN k (g.set c.toNat (g.getD c.toNat 0 + 1)) f.dropLast).2.2.2.map (·.1) := List.mem_map_of_mem hx
             rw [e] at q
             exact hnl q
           rw [q, getD_set_ne (by omega)]
     · rw [takeN_l h1 h2] at h0; exact absurd h0 h2
   · rw [takeN_f h1] at h0; exact absurd h0 h1
def toH (l : List Hd) (j : Int) : Hd := l.getD j.toNat (0, 0)
def nodeK (l : List Hd) (t t2 : List Int) (t3 : List (List Int)) (k : Nat) : Nd := (t.getD k 0, (t2.getD k 0, (t3.getD k []).map (toH l)))
def wrK (l : List Hd) (t t2 : List Int) (t3 : List (List Int)) (ns : List Nd) : Nat → List Nd
 | 0 => ns
 | k + 1 => (wrK l t t2 t3 ns k).set (l.getD k (0, 0)).1.toNat (nodeK l t t2 t3 k)
theorem wrK_len (l : List Hd) (t t2 : List Int) (t3 : List (List Int)) (ns : List Nd) : ∀ k, (wrK l t t2 t3 ns k).length = ns.length
 | 0 => rfl
 | k + 1 => by rw [wrK, List.length_set, wrK_len l t t2 t3 ns k]
theorem toH_of {l : List Hd} {j : Int} (h0 : 0 ≤ j) (h1 : j < l.length) : nthI l j = some (toH l j) := by
 obtain ⟨x, hx, hn⟩ := nth_ex h0 h1
 rw [hn]; simp [toH, List.getD, hx]
def RowsR (n : Nat) (t3 : List (List Int)) : Prop := t3.length = n ∧ ∀ row ∈ t3, row.length ≤ 8 ∧ ∀ j ∈ row, 0 ≤ j ∧ j < n
theorem link_range {hs : List Int} {i h : Nat} (hn : 0 < hs.length) : 0 ≤ linkOf hs i h ∧ linkOf hs i h < hs.length := by
 unfold linkOf
 have := Nat.mod_lt (i + dist hs i h) hn
 omega
theorem tower_rows {t t2 : List Int} {t3 : List (List Int)} (h : TowerR t t2 t3) : t2.length = t.length ∧ RowsR t.length t3 ∧ t.length ≤ 1000 ∧ t ≠ [] ∧ t.Nodup := by
 obtain ⟨⟨h1, h2, h3, h4⟩, rfl⟩ := h
 refine ⟨h2, ⟨by simp [nextOf, h2], fun row hrow => ⟨next_len h4 hrow, fun j hj => ?_⟩⟩, h3.1, h1, h3.2.2⟩
 have h0 : 0 < t2.length := by rw [h2]; exact List.length_pos_iff.2 h1
 simp only [nextOf, List.mem_map, List.mem_range] at hrow
 obtain ⟨i, _, rfl⟩ := hrow
 simp only [linksOf, List.mem_map] at hj
 obtain ⟨q, _, rfl⟩ := hj
 rw [← h2]; exact link_range h0
theorem put2_loop (N : Nat) (v45 v46 : Int) (t t2 : List Int) (t3 : List (List Int)) (v5 v52 : Int) (p p2 : List Int) (l : List Hd) (nodes : List Nd) (a b x x2 : Int) (row : List Int) (hr : row.length ≤ 8) (hj : ∀ j ∈ row, 0 ≤ j ∧ j < l.length) : ∀ (k i m : Nat) (acc : List Hd), i + k = row.length → k < m → acc.length ≤ i →
   l_u61_2 N m (v45, v46, row, (row.length : Int), (i : Int), t, t2, t3, v5, v52, p, p2, l, nodes, a, b, x, x2, acc) = some (v45, v46, t, t2, t3, v5, v52, p, p2, l, nodes, a, b, x, x2, acc ++ (row.drop i).map (toH l))
 | k, i, 0, acc, h1, h2, _ => by omega
 | 0, i, m + 1, acc, h1, h2, _ => by rw [l_u61_2_s, cd, if_neg (by omega), List.drop_eq_nil_of_le (by omega), List.map_nil, List.append_nil]
 | k + 1, i, m + 1, acc, h1, h2, h3 => by
   obtain ⟨j, hj'⟩ := get_at (xs := row) (i := i) (by omega)
   obtain ⟨j0, j1⟩ := hj j (List.mem_of_getElem? hj')
   rw [l_u61_2_s, cd, if_pos (by omega), nth_of hj', ob, toH_of j0 j1, ob, ob, app_of (by omega) (by simp; omega), ob, w64n (by omega), put2_loop N v45 v46 t t2 t3 v5 v52 p p2 l nodes a b x x2 row hr hj k (i + 1) m _ (by omega) (by omega) (by simp; omega), drop_at hj', List.map_cons, List.append_assoc]
   rfl
theorem put1_loop (N : Nat) (hN : Fu ≤ N) (t t2 : List Int) (t3 : List (List Int)) (v5 v52 : Int) (p p2 : List Int) (l : List Hd) (ns : List Nd) (h2l : t2.length = t.length) (hrows : RowsR t.length t3) (hn : t.length ≤ 1000) (hll : l.length = t.length) (hc : ∀ h ∈ l, 0 ≤ h.1 ∧ h.1 < ns.length) : ∀ (k i m : Nat), i + k = t.length → k < m →
   l_u61_1 N m ((t.length : Int), (i : Int), t, t2, t3, v5, v52, p, p2, l, wrK l t t2 t3 ns i) = some (v5, v52, p, p2, l, wrK l t t2 t3 ns t.length)
 | k, i, 0, h1, h2 => by omega
 | 0, i, m + 1, h1, h2 => by
   obtain rfl : i = t.length := by omega
   rw [l_u61_1_s, cd, if_neg (by omega)]
 | k + 1, i, m + 1, h1, h2 => by
   obtain ⟨x, hx⟩ := get_at (xs := t) (i := i) (by omega)
   obtain ⟨y, hy⟩ := get_at (xs := t2) (i := i) (by omega)
   obtain ⟨row, hrow⟩ := get_at (xs := t3) (i := i) (by rw [hrows.1]; omega)
   obtain ⟨h, hh⟩ := get_at (xs := l) (i := i) (by omega)
   obtain ⟨r8, rj⟩ := hrows.2 row (List.mem_of_getElem? hrow)
   obtain ⟨c0, c1⟩ := hc h (List.mem_of_getElem? hh)
   obtain ⟨z, hz⟩ := nget (ns := wrK l t t2 t3 ns i) (h := h) c0 (by rw [wrK_len]; exact c1)
   rw [l_u61_1_s, cd, if_pos (by omega), nth_of hh, ob, ob, nth_of hx, ob, nth_of hy, ob, nth_of hrow, ob, show ((0 : Int) = ((0 : Nat) : Int)) from rfl, put2_loop N _ _ t t2 t3 v5 v52 p p2 l _ _ _ _ _ row r8 (fun j hj => by rw [hll]; exact rj j hj) row.length 0 N [] (by omega) (by have := Fu_eq; omega) (by simp), ob]
   simp only [List.drop_zero, List.nil_append]
   rw [hz, ob, ob, w64n (by omega)]
   have e : (wrK l t t2 t3 ns i).set h.1.toNat (x, (y, row.map (toH l))) = wrK l t t2 t3 ns (i + 1) := by
     rw [wrK, nodeK]; simp [List.getD, hh, hx, hy, hrow]
   rw [e]
   exact put1_loop N hN t t2 t3 v5 v52 p p2 l ns h2l hrows hn hll hc k (i + 1) m (by omega) (by omega)
open Classical in
def putS (g f : List Int) (ns : List Nd) (t t2 : List Int) (t3 : List (List Int)) : Int × List Int × List Int × List Nd × Int × Int :=
 if rightS g f ns = false then (1, g, f, ns, 0, 0) else if ¬ TowerR t t2 t3 then (1, g, f, ns, 0, 0) else
 if (takeN t.length g f).1 ≠ 0 then ((takeN t.length g f).1, g, f, ns, 0, 0)
 else (0, (takeN t.length g f).2.1, (takeN t.length g f).2.2.1, wrK (takeN t.length g f).2.2.2 t t2 t3 ns t.length, toH (takeN t.length g f).2.2.2 0)
theorem put_eq (N : Nat) (hN : Fu + 10 ≤ N) (g f : List Int) (hg : g.length ≤ 9223372036854775807) (hf : f.length ≤ 9223372036854775807) (ns : List Nd) (hl : LN ns) (t t2 : List Int) (t3 : List (List Int)) (h1 : t.length ≤ 9223372036854775807) (h2 : t2.length ≤ 9223372036854775807) :
   m_u61 N (g, f, ns, t, t2, t3) = some (putS g f ns t t2 t3) := by
 obtain ⟨N, rfl⟩ : ∃ n, N = n + 1 := ⟨N - 1, by omega⟩
 rw [m_u61_eq, sright_eq N (by omega) g f hg hf ns hl, ob]
 unfold putS
 cases hr : rightS g f ns with
 | false => simp
 | true =>
   rw [Bool.not_true, cond_false, tright_eq N (by omega) t t2 t3 h1 h2, ob, if_neg (by simp)]
   by_cases ht : TowerR t t2 t3
   · obtain ⟨e2, hrows, h1000, hne, hnd⟩ := tower_rows ht
     obtain ⟨r, hr1, hr2, hr3⟩ := taken_neq N (by omega) t.length h1000 g f hg hf
     rw [cdn, if_pos ht, hr1, ob, cdn, if_neg (show ¬ ¬ TowerR t t2 t3 from fun q => q ht)]
     by_cases h0 : r.1 = 0
     · rw [if_pos h0, if_neg (by rw [← hr2]; exact fun q => q h0)]
       have e := hr3 h0
       have ok := takeN_ok t.length (rightS_iff.1 hr).1 (by rw [← hr2]; exact h0)
       have hlen := (rightS_iff.1 hr).2.1
       obtain ⟨g1, f1, _⟩ := right_len (rightS_iff.1 hr).1
       rw [nclone_eq N (by omega) ns (by omega), ob, e, ok.len, show ((0 : Int) = ((0 : Nat) : Int)) from rfl]
       have hL := put1_loop N (by omega) t t2 t3 0 0 (takeN t.length g f).2.1 (takeN t.length g f).2.2.1 (takeN t.length g f).2.2.2 ns e2 hrows h1000 ok.len (fun h hh => by
         obtain ⟨a, b, _⟩ := ok.cell h hh; exact ⟨a, by omega⟩) t.length 0 N (by omega) (by have := Fu_eq; omega)
       rw [show wrK (takeN t.length g f).2.2.2 t t2 t3 ns 0 = ns from rfl] at hL
       rw [show ((0 : Int) = ((0 : Nat) : Int)) from rfl] at hL
       rw [hL, ob]
       have hp : 0 < t.length := List.length_pos_iff.2 hne
       rw [toH_of (l := (takeN t.length g f).2.2.2) (j := ((0 : Nat) : Int)) (by omega) (by rw [ok.len]; omega), ob, ob]
     · rw [if_neg h0, if_pos (by rw [← hr2]; exact h0), hr2]
   · rw [cdn, if_neg ht, if_pos ht]
theorem rgreat_loop (N : Nat) (most : Int) (t t2 : List Int) (t3 : List (List Int)) (hn : t3.length ≤ 9223372036854775807) : ∀ (k i m : Nat) (n : Int), i + k = t3.length → k < m → ∃ r, l_u36_1 N m (most, n, (i : Int), t, t2, t3) = some r
 | k, i, 0, n, h1, h2 => by omega
 | 0, i, m + 1, n, h1, h2 => by
   rw [l_u36_1_s, cd, if_neg (by omega)]; exact ⟨_, rfl⟩
 | k + 1, i, m + 1, n, h1, h2 => by
   obtain ⟨x, hx⟩ := get_at (xs := t3) (i := i) (by omega)
   rw [l_u36_1_s, cd, if_pos (by omega), cd]
   by_cases h : n ≤ most
   · rw [if_pos h, nth_of hx, ob, w64n (by omega)]
     exact rgreat_loop N most t t2 t3 hn k (i + 1) m _ (by omega) (by omega)
   · rw [if_neg h]; exact ⟨_, rfl⟩
theorem rgreat_ex (N : Nat) (hN : Fu + 1 ≤ N) (t t2 : List Int) (t3 : List (List Int)) (most : Int) (hn : t3.length ≤ 9223372036854775807) : ∃ b, m_u36 N (t, t2, t3, most) = some b := by
 obtain ⟨N, rfl⟩ : ∃ n, N = n + 1 := ⟨N - 1, by omega⟩
 obtain ⟨r, hr⟩ := rgreat_loop N most t t2 t3 hn t3.length 0 N (IntKind.wrap .i64 ((IntKind.wrap .i64 (((t.length : Nat) : Int) + ((t2.length : Nat) : Int))) + ((t3.length : Nat) : Int))) (by omega) (by have := Fu_eq; omega)
 rw [m_u36_eq, show ((0 : Int) = ((0 : Nat) : Int)) from rfl, hr, ob]
 exact ⟨_, rfl⟩
end Go.Proofs.Ytdahghkmejnlgaa
end
noncomputable section
set_option linter.unusedVariables false
set_option linter.unusedSimpArgs false
namespace Go.Proofs.Ytdahghkmejnlgaa
open Go Go.RowKit
def rotL {α : Type} (i : Nat) (xs : List α) : List α := xs.drop i ++ xs.take i
theorem rotL_len {α : Type} (i : Nat) (xs : List α) : (rotL i xs).length = xs.length := by
 simp only [rotL, List.length_append, List.length_drop, List.length_take]; omega
theorem rotL_get {α : Type} {xs : List α} {i j : Nat} (hi : i < xs.length) (hj : j < xs.length) : (rotL i xs)[j]? = xs[(i + j) % xs.length]? := by
 unfold rotL
 by_cases h : j < xs.length - i
 · rw [List.getElem?_append_left (by simpa using h), List.getElem?_drop, Nat.mod_eq_of_lt (by omega)]
 · rw [List.getElem?_append_right (by simp; omega), List.length_drop, List.getElem?_take, if_pos (by omega), Nat.mod_eq_sub_mod (by omega), Nat.mod_eq_of_lt (by omega)]
   congr 1; omega
theorem rotL_perm {α : Type} (i : Nat) (xs : List α) : (rotL i xs).Perm xs := by
 have := @List.perm_append_comm α (xs.drop i) (xs.take i)
 rwa [List.take_append_drop] at this
theorem rotL_zero {α : Type} (xs : List α) : rotL 0 xs = xs := by simp [rotL]
theorem rotL_map {α β : Type} {n i : Nat} (l : List α) (F : α → β) (xs : List β) (hl : l.length = n) (hx : xs.length = n) (hi : i < n) (h : ∀ (a : Nat) x, l[a]? = some x → xs[a]? = some (F x)) : (rotL i l).map F = rotL i xs := by
 refine List.ext_getElem? fun j => ?_
 rw [List.getElem?_map]
 by_cases hj : j < n
 · rw [rotL_get (by omega) (by omega), rotL_get (by omega) (by omega), hl, hx]
   obtain ⟨x, hx'⟩ := get_at (xs := l) (i := (i + j) % n) (by rw [hl]; exact Nat.mod_lt _ (by omega))
   rw [hx', h _ _ hx']; rfl
 · rw [List.getElem?_eq_none (by rw [rotL_len]; omega), List.getElem?_eq_none (by rw [rotL_len]; omega)]; rfl
structure Holds (g f : List Int) (ns : List Nd) (t t2 : List Int) (t3 : List (List Int)) (l : List Hd) : Prop where
 tow : TowerR t t2 t3
 len : l.length = t.length
 good : GoodL g f l
 nodup : l.Nodup
 node : ∀ (i : Nat) h, l[i]? = some h → nd ns h = nodeK l t t2 t3 i
theorem tower_get {t t2 : List Int} {t3 : List (List Int)} (h : TowerR t t2 t3) {i : Nat} (hi : i < t.length) : t3.getD i [] = linksOf t2 i := by
 obtain ⟨⟨h1, h2, h3, h4⟩, rfl⟩ := h
 have : i < t2.length := by omega
 simp [nextOf, List.getD, this]
theorem link_zero {hs : List Int} (hh : HighR hs) {i : Nat} (hn : 0 < hs.length) : linkOf hs i 0 = (((i + 1) % hs.length : Nat) : Int) := by
 have h1 := (high_at hh (Nat.mod_lt (i + 1) hn)).1
 have hd : dist hs i 0 = 1 := by
   unfold dist
   obtain ⟨k, hk⟩ : ∃ k, hs.length = k + 1 := ⟨hs.length - 1, by omega⟩
   rw [hk] at h1 ⊢
   rw [srch, if_pos (by simp only [decide_eq_true_eq]; omega)]
 rw [linkOf, hd]
theorem hold_next {g f : List Int} {ns : List Nd} {t t2 : List Int} {t3 : List (List Int)} {l : List Hd} (H : Holds g f ns t t2 t3 l) {i : Nat} {h : Hd} (hh : l[i]? = some h) : l[(i + 1) % t.length]? = some (nx0 ns h) := by
 have hi : i < t.length := by rw [← H.len]; exact (List.getElem?_eq_some_iff.1 hh).1
 obtain ⟨e2, hrows, h1000, hne, hnd⟩ := tower_rows H.tow
 have hi2 : i < t2.length := by omega
 have hh4 := H.tow.1.2.2.2
 have h1 := (high_at hh4 hi2).1
 obtain ⟨k, hk⟩ : ∃ k, (hAt t2 i).toNat = k + 1 := ⟨(hAt t2 i).toNat - 1, by omega⟩
 have e : (linksOf t2 i)[0]? = some (linkOf t2 i 0) := by
   rw [linksOf, hk, List.getElem?_map, List.getElem?_range (by omega)]; rfl
 have hm : (i + 1) % t.length < l.length := by rw [H.len]; exact Nat.mod_lt _ (by omega)
 rw [nx0, H.node i h hh, nodeK, tower_get H.tow hi]
 simp only [List.getD_eq_getElem?_getD, List.getElem?_map, e]
 rw [link_zero hh4 (by omega), e2]
 simp only [Option.map_some, Option.getD_some, toH, Int.toNat_natCast, List.getD_eq_getElem?_getD]
 rw [List.getElem?_eq_getElem hm]; rfl
theorem trip_rot {ns : List Nd} {L : List Hd} (hn : L.Nodup) (hnext : ∀ (j : Nat) h, L[j]? = some h → L[(j + 1) % L.length]? = some (nx0 ns h)) {h0 : Hd} (hz : L[0]? = some h0) : ∀ (d j k : Nat), j + d = L.length → 0 < d → d + 1 ≤ k → ∀ h, L[j]? = some h → trip ns k (L.take j) h = (L, h0)
 | 0, j, k, h1, h2, h3, h, hj => by omega
 | d + 1, j, 0, h1, h2, h3, h, hj => by omega
 | d + 1, j, k + 1, h1, h2, h3, h, hj => by
   have hnm : h ∉ L.take j := fun hm => by
     obtain ⟨a, ha⟩ := List.getElem?_of_mem hm
     have hlt : a < j := by have := (List.getElem?_eq_some_iff.1 ha).1; simp at this; omega
     rw [List.getElem?_take, if_pos hlt] at ha
     have := (List.getElem?_inj (by omega) hn).1 (ha.trans hj.symm)
     omega
   rw [trip, if_neg hnm, ← take_at hj]
   have hx := hnext j h hj
   cases d with
   | zero =>
     rw [show (j + 1) % L.length = 0 by rw [h1]; exact Nat.mod_self _, hz] at hx
     rw [← Option.some.inj hx, List.take_of_length_le (by omega)]
     obtain ⟨k, rfl⟩ : ∃ q, k = q + 1 := ⟨k - 1, by omega⟩
     rw [trip, if_pos (List.mem_of_getElem? hz)]
   | succ d =>
     rw [Nat.mod_eq_of_lt (by omega)] at hx
     exact trip_rot hn hnext hz (d + 1) (j + 1) k (by omega) (by omega) (by omega) _ hx
theorem plI_rot {l : List Hd} (hn : l.Nodup) {i q : Nat} (hi : i < l.length) {h : Hd} (hq : l[q]? = some h) : plI (rotL i l) h = (((q + (l.length - i)) % l.length : Nat) : Int) := by
 have hql : q < l.length := (List.getElem?_eq_some_iff.1 hq).1
 have hm : (q + (l.length - i)) % l.length < l.length := Nat.mod_lt _ (by omega)
 have e : (rotL i l)[(q + (l.length - i)) % l.length]? = some h := by
   rw [rotL_get hi hm, Nat.add_mod_mod, show i + (q + (l.length - i)) = q + l.length by omega, Nat.add_mod_right, Nat.mod_eq_of_lt hql, hq]
 unfold plI
 rw [if_pos (List.mem_of_getElem? e), ixH_at ((rotL_perm i l).nodup_iff.2 hn) e]
theorem hAt_rot {hs : List Int} {i j : Nat} (hi : i < hs.length) (hj : j < hs.length) : hAt (rotL i hs) j = hAt hs ((i + j) % hs.length) := by
 simp only [hAt, List.getD_eq_getElem?_getD]
 rw [rotL_get hi hj]
theorem dist_rot {hs : List Int} {i j h : Nat} (hi : i < hs.length) : dist (rotL i hs) j h = dist hs ((i + j) % hs.length) h := by
 unfold dist
 rw [rotL_len]
 congr 1
 funext d
 have e : hAt (rotL i hs) ((j + d) % hs.length) = hAt hs (((i + j) % hs.length + d) % hs.length) := by
   rw [hAt_rot hi (Nat.mod_lt _ (by omega)), Nat.add_mod_mod, Nat.mod_add_mod]
   congr 2; omega
 rw [e]
theorem links_rot {hs : List Int} {i j : Nat} (hi : i < hs.length) (hj : j < hs.length) : (linksOf hs ((i + j) % hs.length)).map (fun q => (((q.toNat + (hs.length - i)) % hs.length : Nat) : Int)) = linksOf (rotL i hs) j := by
 unfold linksOf
 rw [hAt_rot hi hj, List.map_map]
 refine List.map_congr_left fun h _ => ?_
 simp only [Function.comp, linkOf, Int.toNat_natCast, dist_rot hi, rotL_len]
 congr 1
 rw [Nat.mod_add_mod, show (i + j) % hs.length + dist hs ((i + j) % hs.length) h + (hs.length - i) = (i + j) % hs.length + (dist hs ((i + j) % hs.length) h + (hs.length - i)) by omega, Nat.mod_add_mod, show i + j + (dist hs ((i + j) % hs.length) h + (hs.length - i)) = j + dist hs ((i + j) % hs.length) h + hs.length by omega, Nat.add_mod_right]
theorem towR_rot {t t2 : List Int} (h : TowR t t2) {i : Nat} : TowR (rotL i t) (rotL i t2) := by
 obtain ⟨h1, h2, ⟨h3, h4, h5⟩, h6⟩ := h
 refine ⟨fun e => h1 ?_, by rw [rotL_len, rotL_len, h2], ⟨by rw [rotL_len]; exact h3, fun x hx => h4 x ((rotL_perm i t).mem_iff.1 hx), (rotL_perm i t).nodup_iff.2 h5⟩, fun x hx => h6 x ((rotL_perm i t2).mem_iff.1 hx)⟩
 have := congrArg List.length e
 rw [rotL_len] at this
 exact List.eq_nil_of_length_eq_zero this
theorem hold_read {g f : List Int} {ns : List Nd} {t t2 : List Int} {t3 : List (List Int)} {l : List Hd} (hr : rightS g f ns = true) (H : Holds g f ns t t2 t3 l) {i : Nat} {h : Hd} (hh : l[i]? = some h) :
   readS g f ns h = (0, rotL i t, rotL i t2, nextOf (rotL i t2), rotL i l) := by
 have hi : i < l.length := (List.getElem?_eq_some_iff.1 hh).1
 have hlen := H.len
 obtain ⟨e2, hrows, h1000, hne, hnd⟩ := tower_rows H.tow
 have hgl := good_len H.good H.nodup
 have hL : (rotL i l).Nodup := (rotL_perm i l).nodup_iff.2 H.nodup
 have hz : (rotL i l)[0]? = some h := by rw [rotL_get hi (by omega), Nat.add_zero, Nat.mod_eq_of_lt hi, hh]
 have hnext : ∀ (j : Nat) x, (rotL i l)[j]? = some x → (rotL i l)[(j + 1) % (rotL i l).length]? = some (nx0 ns x) := fun j x hx => by
   have hj : j < l.length := by have := (List.getElem?_eq_some_iff.1 hx).1; rwa [rotL_len] at this
   rw [rotL_get hi hj] at hx
   have := hold_next H hx
   rw [rotL_len, rotL_get hi (Nat.mod_lt _ (by omega)), Nat.add_mod_mod]
   rw [← hlen, Nat.mod_add_mod] at this
   rw [← Nat.add_assoc]; exact this
 have htr : tripOf g ns h = (rotL i l, h) := by
   have := trip_rot hL hnext hz (rotL i l).length 0 (g.length + 1) (by omega) (by rw [rotL_len]; omega) (by rw [rotL_len]; omega) h hz
   simpa [tripOf] using this
 have ht : tokS ns (rotL i l) = rotL i t := rotL_map (n := l.length) l _ t rfl hlen.symm hi fun a x ha => by
   have hal : a < t.length := by rw [← hlen]; exact (List.getElem?_eq_some_iff.1 ha).1
   rw [H.node a x ha, nodeK]; simp [List.getD, List.getElem?_eq_getElem hal]
 have hh2 : hgtS ns (rotL i l) = rotL i t2 := rotL_map (n := l.length) l _ t2 rfl (by omega) hi fun a x ha => by
   have hal : a < t2.length := by rw [e2, ← hlen]; exact (List.getElem?_eq_some_iff.1 ha).1
   rw [H.node a x ha, nodeK]; simp [List.getD, List.getElem?_eq_getElem hal]
 have hx : nxtS ns (rotL i l) (rotL i l) = nextOf (rotL i t2) := by
   refine List.ext_getElem? fun j => ?_
   unfold nxtS nextOf
   rw [List.getElem?_map, List.getElem?_map]
   by_cases hj : j < l.length
   · rw [rotL_get hi hj]
     have hm : (i + j) % l.length < l.length := Nat.mod_lt _ (by omega)
     obtain ⟨x, hx⟩ := get_at hm
     rw [hx, List.getElem?_range (by rw [rotL_len]; omega)]
     simp only [Option.map_some]
     rw [H.node _ x hx, nodeK, tower_get H.tow (by omega), ← links_rot (by omega) (by omega), List.map_map, show t2.length = l.length by omega]
     congr 1
     refine List.map_congr_left fun q hq => ?_
     simp only [linksOf, List.mem_map] at hq
     obtain ⟨y, _, rfl⟩ := hq
     obtain ⟨l0, l1⟩ := link_range (hs := t2) (i := (i + j) % l.length) (h := y) (by omega)
     have hql : (linkOf t2 ((i + j) % l.length) y).toNat < l.length := by omega
     simp only [Function.comp]
     refine plI_rot H.nodup hi ?_
     rw [toH, List.getD_eq_getElem?_getD, List.getElem?_eq_getElem hql]; rfl
   · rw [List.getElem?_eq_none (by rw [rotL_len]; omega), List.getElem?_eq_none (by rw [List.length_range, rotL_len]; omega)]; rfl
 have hT : towS ns (rotL i l) := by
   rw [towS_iff, ht, hh2, hx]
   exact ⟨towR_rot H.tow.1, rfl⟩
 unfold readS
 rw [if_neg (by simp [hr]), if_neg (by have := H.good h (List.mem_of_getElem? hh); simp [this]), htr, if_pos ⟨rfl, hT⟩]
 simp only [ht, hh2, hx]
end Go.Proofs.Ytdahghkmejnlgaa
end
noncomputable section
set_option linter.unusedVariables false
set_option linter.unusedSimpArgs false
namespace Go.Proofs.Ytdahghkmejnlgaa
open Go Go.RowKit
theorem fullN_iff {g f : List Int} {x : Nd} : fullN g f x = true ↔ (0 ≤ x.1 ∧ 1 ≤ x.2.1 ∧ x.2.1 ≤ 8 ∧ (x.2.2.length : Int) = x.2.1) ∧ GoodL g f x.2.2 := by
 simp only [fullN, Bool.and_eq_true, decide_eq_true_eq, List.all_eq_true, GoodL]
theorem emptyN_iff {x : Nd} : emptyN x = true ↔ x = (0, (0, [])) := by
 obtain ⟨a, b, c⟩ := x
 simp [emptyN, Bool.and_eq_true]
def CellsR (g f : List Int) (ns : List Nd) : Prop := ∀ (c : Nat) x, ns[c]? = some x → ((c : Int) ∈ f → x = (0, (0, []))) ∧ ((c : Int) ∉ f → fullN g f x = true)
theorem rightS_cells {g f : List Int} {ns : List Nd} : rightS g f ns = true ↔ rightB g f = true ∧ ns.length = g.length ∧ CellsR g f ns := by
 rw [rightS_iff]
 refine and_congr_right fun _ => and_congr_right fun _ => ⟨fun h c x hx => ?_, fun h c x hx => ?_⟩
 · have := h c x hx
   unfold cellOk at this
   by_cases hc : (c : Int) ∈ f
   · rw [if_pos hc, emptyN_iff] at this; exact ⟨fun _ => this, fun h => absurd hc h⟩
   · rw [if_neg hc] at this; exact ⟨fun h => absurd h hc, fun _ => this⟩
 · unfold cellOk
   by_cases hc : (c : Int) ∈ f
   · rw [if_pos hc, emptyN_iff]; exact (h c x hx).1 hc
   · rw [if_neg hc]; exact (h c x hx).2 hc
theorem wrK_ne {l : List Hd} {t t2 : List Int} {t3 : List (List Int)} {ns : List Nd} {c : Nat} : ∀ (k : Nat), (∀ i, i < k → (l.getD i (0, 0)).1.toNat ≠ c) → (wrK l t t2 t3 ns k)[c]? = ns[c]?
 | 0, _ => rfl
 | k + 1, h => by
   rw [wrK, List.getElem?_set_ne (h k (by omega)), wrK_ne k fun i hi => h i (by omega)]
theorem wrK_at {l : List Hd} {t t2 : List Int} {t3 : List (List Int)} {ns : List Nd} {i : Nat} (hlt : (l.getD i (0, 0)).1.toNat < ns.length) : ∀ (k : Nat), i < k → (∀ j, i < j → j < k → (l.getD j (0, 0)).1.toNat ≠ (l.getD i (0, 0)).1.toNat) → (wrK l t t2 t3 ns k)[(l.getD i (0, 0)).1.toNat]? = some (nodeK l t t2 t3 i)
 | 0, h, _ => by omega
 | k + 1, h, hne => by
   rw [wrK]
   by_cases hk : i = k
   · subst hk
     rw [List.getElem?_set_self (by rw [wrK_len]; exact hlt)]
   · rw [List.getElem?_set_ne (hne k (by omega) (by omega)), wrK_at hlt k (by omega) fun j h1 h2 => hne j h1 (by omega)]
structure PutOk (g f : List Int) (ns : List Nd) (t t2 : List Int) (t3 : List (List Int)) (g' f' : List Int) (ns' : List Nd) (l : List Hd) : Prop where
 right : rightS g' f' ns' = true
 holds : Holds g' f' ns' t t2 t3 l
 free : f = f' ++ (l.map (·.1)).reverse
 gens : g'.length = g.length
 good : ∀ h : Hd, goodB g f h.1 h.2 = true → goodB g' f' h.1 h.2 = true ∧ nd ns' h = nd ns h ∧ ∀ q ∈ l, q.1 ≠ h.1
 same : ∀ (c : Nat), (c : Int) ∉ l.map (·.1) → g'.getD c 0 = g.getD c 0 ∧ ns'[c]? = ns[c]?
 one : ∀ h ∈ l, h.2 = g.getD h.1.toNat 0 + 1 ∧ g'.getD h.1.toNat 0 = h.2
theorem put_ok {g f : List Int} {ns : List Nd} {t t2 : List Int} {t3 : List (List Int)} (hr : rightS g f ns = true) (ht : TowerR t t2 t3) (h0 : (takeN t.length g f).1 = 0) :
   PutOk g f ns t t2 t3 (takeN t.length g f).2.1 (takeN t.length g f).2.2.1 (wrK (takeN t.length g f).2.2.2 t t2 t3 ns t.length) (takeN t.length g f).2.2.2 := by
 obtain ⟨hb, hlen, hcells⟩ := rightS_cells.1 hr
 have ok := takeN_ok t.length hb h0
 obtain ⟨e2, hrows, h1000, hne, hnd⟩ := tower_rows ht
 generalize (takeN t.length g f) = r at *
 obtain ⟨rz, g', f', l⟩ := r
 obtain ⟨k1, k2, k3, k4, k5, k6⟩ := ok
 simp only at k1 k2 k3 k4 k5 k6 ⊢
 have hfn := (rightB_iff.1 hb).2.2
 rw [k2, List.nodup_append] at hfn
 obtain ⟨hn1, hn2, hn3⟩ := hfn
 have hcn : (l.map (·.1)).Nodup := (List.reverse_perm _).nodup_iff.1 hn2
 have hln : l.Nodup := (List.pairwise_map.1 hcn).imp fun h e => h (by rw [e])
 have hmem : ∀ c : Int, c ∈ f ↔ c ∈ f' ∨ c ∈ l.map (·.1) := fun c => by rw [k2]; simp only [List.mem_append, List.mem_reverse]
 have hdis : ∀ c : Int, c ∈ l.map (·.1) → c ∉ f' := fun c hc hf => hn3 c hf c (by simpa using hc) rfl
 have hgd : ∀ (i : Nat) h, l[i]? = some h → l.getD i (0, 0) = h := fun i h hh => by simp [List.getD, hh]
 have hgood : GoodL g' f' l := fun h hh => goodB_iff.2 ⟨k6, (k5 h hh).1, by have := (k5 h hh).2.1; omega, (k5 h hh).2.2.1, hdis _ (List.mem_map_of_mem hh)⟩
 have hold : ∀ h : Hd, goodB g f h.1 h.2 = true → goodB g' f' h.1 h.2 = true ∧ h.1 ∉ l.map (·.1) := fun h hh => by
   obtain ⟨_, c0, c1, c2, c3⟩ := goodB_iff.1 hh
   rw [hmem] at c3
   have hct : ((h.1.toNat : Nat) : Int) = h.1 := by omega
   exact ⟨goodB_iff.2 ⟨k6, c0, by omega, by rw [k4 _ (by rw [hct]; exact fun q => c3 (.inr q))]; exact c2, fun q => c3 (.inl q)⟩, fun q => c3 (.inr q)⟩
 have hinj : ∀ (i j : Nat), i < l.length → j < l.length → (l.getD i (0, 0)).1.toNat = (l.getD j (0, 0)).1.toNat → i = j := fun i j hi hj e => by
   obtain ⟨x, hx⟩ := get_at hi
   obtain ⟨y, hy⟩ := get_at hj
   rw [hgd i x hx, hgd j y hy] at e
   have h1 := (k5 x (List.mem_of_getElem? hx)).1
   have h2 := (k5 y (List.mem_of_getElem? hy)).1
   have e3 : x.1 = y.1 := by omega
   refine (List.getElem?_inj (by simpa using hi) hcn).1 ?_
   rw [List.getElem?_map, List.getElem?_map, hx, hy, Option.map_some, Option.map_some, e3]
 have hat : ∀ (i : Nat) h, l[i]? = some h → (wrK l t t2 t3 ns t.length)[h.1.toNat]? = some (nodeK l t t2 t3 i) := fun i h hh => by
   have hi : i < l.length := (List.getElem?_eq_some_iff.1 hh).1
   have hk := k5 h (List.mem_of_getElem? hh)
   have := wrK_at (l := l) (t := t) (t2 := t2) (t3 := t3) (ns := ns) (i := i) (by rw [hgd i h hh]; omega) t.length (by omega) fun j h1 h2 e => by
     have := hinj j i (by omega) hi e; omega
   rwa [hgd i h hh] at this
 have hnt : ∀ c : Nat, (c : Int) ∉ l.map (·.1) → (wrK l t t2 t3 ns t.length)[c]? = ns[c]? := fun c hc => wrK_ne t.length fun i hi e => by
   obtain ⟨x, hx⟩ := get_at (xs := l) (i := i) (by omega)
   rw [hgd i x hx] at e
   have h1 := (k5 x (List.mem_of_getElem? hx)).1
   refine hc ?_
   rw [← e, show ((x.1.toNat : Nat) : Int) = x.1 by omega]
   exact List.mem_map_of_mem (List.mem_of_getElem? hx)
 have hfull : ∀ (i : Nat), i < t.length → fullN g' f' (nodeK l t t2 t3 i) = true := fun i hi => by
   obtain ⟨x, hx⟩ := get_at hi
   have hi2 : i < t2.length := by omega
   have hT := ht.1.2.2.1.2.1 x (List.mem_of_getElem? hx)
   have hH := high_at ht.1.2.2.2 hi2
   rw [fullN_iff, nodeK, tower_get ht hi]
   refine ⟨⟨by simp only [List.getD, hx]; exact hT.1, hH.1, hH.2, by show (((linksOf t2 i).map (toH l)).length : Int) = hAt t2 i; rw [List.length_map, linksOf, List.length_map, List.length_range]; omega⟩, fun q hq => ?_⟩
   simp only [List.mem_map] at hq
   obtain ⟨j, hj, rfl⟩ := hq
   simp only [linksOf, List.mem_map] at hj
   obtain ⟨y, _, rfl⟩ := hj
   obtain ⟨l0, l1⟩ := link_range (hs := t2) (i := i) (h := y) (by omega)
   have hql : (linkOf t2 i y).toNat < l.length := by omega
   rw [toH, List.getD_eq_getElem?_getD, List.getElem?_eq_getElem hql]
   exact hgood _ (List.getElem_mem _)
 refine ⟨rightS_cells.2 ⟨k6, by rw [wrK_len, hlen, k3], fun c x hx => ?_⟩, ⟨ht, k1, hgood, hln, fun i h hh => ?_⟩, k2, k3, fun h hh => ?_, fun c hc => ⟨k4 c hc, hnt c hc⟩, fun h hh => ⟨(k5 h hh).2.2.2, (k5 h hh).2.2.1⟩⟩
 · by_cases hc : (c : Int) ∈ l.map (·.1)
   · obtain ⟨h, hh, e⟩ := List.mem_map.1 hc
     obtain ⟨i, hi⟩ := List.getElem?_of_mem hh
     have hil : i < l.length := (List.getElem?_eq_some_iff.1 hi).1
     have := hat i h hi
     rw [show h.1.toNat = c by omega, hx] at this
     cases this
     exact ⟨fun q => absurd q (hdis _ hc), fun _ => hfull i (by omega)⟩
   · rw [hnt c hc] at hx
     obtain ⟨a, b⟩ := hcells c x hx
     refine ⟨fun q => a ((hmem _).2 (.inl q)), fun q => ?_⟩
     have := b (fun z => ((hmem _).1 z).elim q hc)
     rw [fullN_iff] at this ⊢
     exact ⟨this.1, fun y hy => (hold y (this.2 y hy)).1⟩
 · rw [nd, List.getD_eq_getElem?_getD, hat i h hh]; rfl
 · obtain ⟨a, b⟩ := hold h hh
   have hc := (goodB_iff.1 hh).2.1
   refine ⟨a, ?_, fun q hq e => b (by rw [← e]; exact List.mem_map_of_mem hq)⟩
   rw [nd, nd, List.getD_eq_getElem?_getD, List.getD_eq_getElem?_getD, hnt _ (by rw [show ((h.1.toNat : Nat) : Int) = h.1 by omega]; exact b)]
def clr : List Hd → List Nd → List Nd
 | [], ns => ns
 | h :: l, ns => clr l (ns.set h.1.toNat (0, (0, [])))
theorem clr_len : ∀ (l : List Hd) (ns : List Nd), (clr l ns).length = ns.length
 | [], ns => rfl
 | h :: l, ns => by rw [clr, clr_len l, List.length_set]
theorem clr_ne : ∀ (l : List Hd) (ns : List Nd) (c : Nat), (∀ h ∈ l, h.1.toNat ≠ c) → (clr l ns)[c]? = ns[c]?
 | [], ns, c, _ => rfl
 | h :: l, ns, c, hc => by rw [clr, clr_ne l _ c fun q hq => hc q (by simp [hq]), List.getElem?_set_ne (hc h (by simp))]
theorem clr_at : ∀ (l : List Hd) (ns : List Nd) (c : Nat) x, (∃ h ∈ l, h.1.toNat = c) → (clr l ns)[c]? = some x → x = (0, (0, []))
 | [], ns, c, x, h, _ => by obtain ⟨_, h, _⟩ := h; cases h
 | h :: l, ns, c, x, hc, hx => by
   rw [clr] at hx
   by_cases hl : ∃ q ∈ l, q.1.toNat = c
   · exact clr_at l _ c x hl hx
   · rw [clr_ne l _ c fun q hq e => hl ⟨q, hq, e⟩] at hx
     obtain ⟨q, hq, e⟩ := hc
     rcases List.mem_cons.1 hq with rfl | hq
     · subst e
       rw [List.getElem?_set] at hx
       simp only [if_true] at hx
       split at hx
       · exact (Option.some.inj hx).symm
       · cases hx
     · exact absurd ⟨q, hq, e⟩ hl
theorem good_app {g f : List Int} {h q : Hd} (hh : goodB g f h.1 h.2 = true) (hr : rightB g (f ++ [q.1]) = true) (hne : h.1 ≠ q.1) : goodB g (f ++ [q.1]) h.1 h.2 = true := by
 obtain ⟨_, c0, c1, c2, c3⟩ := goodB_iff.1 hh
 refine goodB_iff.2 ⟨hr, c0, c1, c2, fun hm => ?_⟩
 rcases List.mem_append.1 hm with hm | hm
 · exact c3 hm
 · simp only [List.mem_singleton] at hm; exact hne hm
theorem giveL_ok : ∀ (l : List Hd) {g f : List Int} (ns : List Nd), rightB g f = true → GoodL g f l → l.Nodup → giveL l g f ns = (g, f ++ l.map (·.1), clr l ns) ∧ rightB g (f ++ l.map (·.1)) = true
 | [], g, f, ns, hr, _, _ => by simp [giveL, clr, hr]
 | h :: l, g, f, ns, hr, hg, hn => by
   rw [List.nodup_cons] at hn
   have hh := hg h (by simp)
   obtain ⟨e, hr2⟩ := giveP_ok hh
   have hg2 : GoodL g (f ++ [h.1]) l := fun q hq => good_app (hg q (by simp [hq])) hr2 fun e => hn.1 (good_inj (hg q (by simp [hq])) hh e ▸ hq)
   obtain ⟨e2, hr3⟩ := giveL_ok l (ns.set h.1.toNat (0, (0, []))) hr2 hg2 hn.2
   rw [giveL, e]
   simp only [List.map_cons, clr]
   rw [e2]
   rw [List.append_assoc, List.singleton_append] at hr3
   exact ⟨by rw [List.append_assoc, List.singleton_append], hr3⟩
theorem leadsFrom_iff {l : List Hd} : ∀ {c : Nat} {ns : List Nd}, leadsFrom l c ns = false ↔ ∀ (i : Nat) x, ns[i]? = some x → (∀ h ∈ l, h.1 ≠ ((c + i : Nat) : Int)) → ∀ q ∈ x.2.2, q ∉ l
 | c, [] => by simp [leadsFrom]
 | c, y :: ns => by
   rw [leadsFrom, Bool.or_eq_false_iff, leadsFrom_iff (c := c + 1) (ns := ns)]
   constructor
   · rintro ⟨h1, h2⟩ i x hx hc q hq hql
     cases i with
     | zero =>
       simp only [List.getElem?_cons_zero, Option.some.injEq] at hx
       subst hx
       have ha : (l.any fun h => decide (h.1 = (c : Int))) = false := by
         rw [List.any_eq_false]; intro h hh; simpa using hc h hh
       rw [ha, Bool.not_false, Bool.true_and, List.any_eq_false] at h1
       exact h1 q hq (by simpa using hql)
     | succ i => exact h2 i x (by simpa using hx) (fun h hh => by have := hc h hh; rwa [show c + (i + 1) = c + 1 + i by omega] at this) q hq hql
   · intro h
     refine ⟨?_, fun i x hx hc q hq => h (i + 1) x (by simpa using hx) (fun z hz => by rw [show c + (i + 1) = c + 1 + i by omega]; exact hc z hz) q hq⟩
     by_cases ha : (l.any fun h => decide (h.1 = (c : Int))) = true
     · rw [ha]; rfl
     · have ha' : (l.any fun h => decide (h.1 = (c : Int))) = false := (Bool.not_eq_true _).mp ha
       rw [ha', Bool.not_false, Bool.true_and, List.any_eq_false]
       rw [List.any_eq_false] at ha'
       intro q hq
       have := h 0 y rfl (fun z hz => by simpa using ha' z hz) q hq
       simpa using this
structure GiveOk (g f : List Int) (ns : List Nd) (L : List Hd) (f' : List Int) (ns' : List Nd) : Prop where
 right : rightS g f' ns' = true
 free : f' = f ++ L.map (·.1)
 good : ∀ h : Hd, goodB g f h.1 h.2 = true → h ∉ L → goodB g f' h.1 h.2 = true ∧ nd ns' h = nd ns h
 stale : ∀ h ∈ L, goodB g f' h.1 h.2 = false
 same : ∀ (c : Nat), (∀ h ∈ L, h.1 ≠ (c : Int)) → ns'[c]? = ns[c]?
theorem give_ok {g f : List Int} {ns : List Nd} {L : List Hd} (hr : rightS g f ns = true) (hg : GoodL g f L) (hn : L.Nodup) (hlead : leadsFrom L 0 ns = false) : GiveOk g f ns L (f ++ L.map (·.1)) (clr L ns) := by
 obtain ⟨hb, hlen, hcells⟩ := rightS_cells.1 hr
 obtain ⟨_, hr2⟩ := giveL_ok L ns hb hg hn
 rw [leadsFrom_iff] at hlead
 have hcell : ∀ h ∈ L, 0 ≤ h.1 := fun h hh => (goodB_iff.1 (hg h hh)).2.1
 have hsame : ∀ (c : Nat), (∀ h ∈ L, h.1 ≠ (c : Int)) → (clr L ns)[c]? = ns[c]? := fun c hc => clr_ne L ns c fun h hh e => hc h hh (by have := hcell h hh; omega)
 have hgood : ∀ h : Hd, goodB g f h.1 h.2 = true → h ∉ L → goodB g (f ++ L.map (·.1)) h.1 h.2 = true ∧ ∀ q ∈ L, q.1 ≠ h.1 := fun h hh hnl => by
   obtain ⟨_, c0, c1, c2, c3⟩ := goodB_iff.1 hh
   have hd : ∀ q ∈ L, q.1 ≠ h.1 := fun q hq e => hnl (good_inj (hg q hq) hh e ▸ hq)
   refine ⟨goodB_iff.2 ⟨hr2, c0, c1, c2, fun hm => ?_⟩, hd⟩
   rcases List.mem_append.1 hm with hm | hm
   · exact c3 hm
   · obtain ⟨q, hq, e⟩ := List.mem_map.1 hm; exact hd q hq e
 refine ⟨rightS_cells.2 ⟨hr2, by rw [clr_len, hlen], fun c x hx => ?_⟩, rfl, fun h hh hnl => ?_, fun h hh => ?_, hsame⟩
 · by_cases hc : ∃ h ∈ L, h.1 = (c : Int)
   · obtain ⟨h, hh, e⟩ := hc
     refine ⟨fun _ => clr_at L ns c x ⟨h, hh, by omega⟩ hx, fun q => absurd (List.mem_append.2 (.inr (List.mem_map.2 ⟨h, hh, e⟩))) q⟩
   · have hc' : ∀ h ∈ L, h.1 ≠ (c : Int) := fun h hh e => hc ⟨h, hh, e⟩
     rw [hsame c hc'] at hx
     obtain ⟨a, b⟩ := hcells c x hx
     refine ⟨fun q => ?_, fun q => ?_⟩
     · rcases List.mem_append.1 q with q | q
       · exact a q
       · obtain ⟨h, hh, e⟩ := List.mem_map.1 q; exact absurd e (hc' h hh)
     · have := b fun z => q (List.mem_append.2 (.inl z))
       rw [fullN_iff] at this ⊢
       exact ⟨this.1, fun y hy => (hgood y (this.2 y hy) (hlead c x hx (fun h hh => by simpa using hc' h hh) y hy)).1⟩
 · obtain ⟨a, b⟩ := hgood h hh hnl
   have hc := (goodB_iff.1 hh).2.1
   refine ⟨a, ?_⟩
   rw [nd, nd, List.getD_eq_getElem?_getD, List.getD_eq_getElem?_getD, hsame _ (fun q hq e => b q hq (by omega))]
 · cases e : goodB g (f ++ L.map (·.1)) h.1 h.2 with
   | false => rfl
   | true => exact absurd (List.mem_append.2 (.inr (List.mem_map.2 ⟨h, hh, rfl⟩))) (goodB_iff.1 e).2.2.2.2
theorem leads_perm {l l' : List Hd} (h : ∀ q, q ∈ l ↔ q ∈ l') {ns : List Nd} : leadsFrom l 0 ns = false → leadsFrom l' 0 ns = false := by
 rw [leadsFrom_iff, leadsFrom_iff]
 exact fun hh i x hx hc q hq hql => hh i x hx (fun z hz => hc z ((h z).1 hz)) q hq ((h q).2 hql)
theorem hold_give {g f : List Int} {ns : List Nd} {t t2 : List Int} {t3 : List (List Int)} {l : List Hd} (hr : rightS g f ns = true) (H : Holds g f ns t t2 t3 l) {i : Nat} {h : Hd} (hh : l[i]? = some h) (hlead : leadsFrom l 0 ns = false) :
   ∃ f' ns', sgiveS g f ns h = (0, g, f', ns') ∧ GiveOk g f ns (rotL i l).reverse f' ns' := by
 have hrd := hold_read hr H hh
 have hp : ∀ q, q ∈ l ↔ q ∈ rotL i l := fun q => ((rotL_perm i l).mem_iff).symm
 have hp2 : ∀ q, q ∈ l ↔ q ∈ (rotL i l).reverse := fun q => by rw [List.mem_reverse]; exact hp q
 have hg : GoodL g f (rotL i l).reverse := fun q hq => H.good q ((hp2 q).2 hq)
 have hn : (rotL i l).reverse.Nodup := (List.reverse_perm _).nodup_iff.2 ((rotL_perm i l).nodup_iff.2 H.nodup)
 obtain ⟨e, _⟩ := giveL_ok _ ns (rightS_iff.1 hr).1 hg hn
 refine ⟨_, _, ?_, give_ok hr hg hn (leads_perm hp2 hlead)⟩
 unfold sgiveS
 rw [hrd]
 simp only
 rw [if_neg (by simp), if_neg (by rw [leads_perm hp hlead]; simp), e]
theorem Holds.put {g f : List Int} {ns : List Nd} {t t2 : List Int} {t3 : List (List Int)} {g' f' : List Int} {ns' : List Nd} {l : List Hd} (P : PutOk g f ns t t2 t3 g' f' ns' l) {u u2 : List Int} {u3 : List (List Int)} {m : List Hd} (H : Holds g f ns u u2 u3 m) : Holds g' f' ns' u u2 u3 m ∧ ∀ h ∈ m, h ∉ l :=
 ⟨⟨H.tow, H.len, fun h hh => (P.good h (H.good h hh)).1, H.nodup, fun i h hh => by rw [(P.good h (H.good h (List.mem_of_getElem? hh))).2.1]; exact H.node i h hh⟩, fun h hh hl => (P.good h (H.good h hh)).2.2 h hl rfl⟩
end Go.Proofs.Ytdahghkmejnlgaa
end
noncomputable section
set_option linter.unusedVariables false
set_option maxRecDepth 100000
namespace Go.Proofs.Ytdahghkmejnlgaa
open Go Go.RowKit
def ct_u27 (N : Nat) : List Ctr := [c_u32 N, c_u38 N, c_u36 N, c_u61 N, c_u49 N, c_u53 N, c_u48 N, c_u39 N, c_u35 N, c_u51 N, c_u46 N]
def i_u27_1 : PS := ⟨[(11, .k (.ow 900)), (13, .h s0), (20, .k (.pt 901 0)), (22, .h s0)], [(900, .arr 29 s3 true), (901, .box 27 [.h s1, .h s1, .h s9])], [s0, s0, s4, s1, s1, s9]⟩
def o_u27_1 : List (Exit × PS) := [((.exit 0), ⟨[], [], []⟩), (.ret, ⟨[(6, .h .b)], [], [.b]⟩)]
def p_u27_1 : Pl := .z
def l_u27_1 (N : Nat) : Nat → Int × Int × (List (Int × Int)) × (List Int) × (List Int) × (List (Int × (Int × (List (Int × Int))))) → Option ((Unit) ⊕ (Bool)) := loopF (exC T (ct_u27 N) N (codeAt [1, 1, 1, 1, 1, 1, 1, 1, 1, 1, 1, 1, 1, 1, 0, 1, 0, 0] (bodyOf Try.f5))) 193 i_u27_1 o_u27_1 p_u27_1
def p_u27 : Pl := (.n .z (.n .z (.n .z (.n .z (.n .z (.n .z (.n .z (.n .z (.n .z (.n .z (.n .z (.n .z (.n .z (.n .z (.n (.n .z (.n (.loop i_u27_1 o_u27_1 p_u27_1) .z)) .z)))))))))))))))
def r_u27 : PS := ⟨[(6, .h .b)], [], [.b]⟩
def m_u27 (N : Nat) : (List Int) × (List Int) × (List (Int × (Int × (List (Int × Int))))) × (List Int) × (List Int) × (List (List Int)) × Int → Option (Bool) := exF T ct_u27 N (bodyOf Try.f5) 193 p_u27 [.ag [.h s1, .h s1, .h s9], .ag [.h s1, .h s1, .h s2], .h (.i .u8)] [] [s1, s1, s9, s1, s1, s2, (.i .u8)] r_u27
def c_u27 (N : Nat) : Ctr := ⟨5, [.ag [.h s1, .h s1, .h s9], .ag [.h s1, .h s1, .h s2], .h (.i .u8)], [], [s1, s1, s9, s1, s1, s2, (.i .u8)], Tup r_u27.c, m_u27 N, fun y _ k => k (resG T (mkPS 193 r_u27 y) Try.f5.results.toList) (keepH' [] (mkPS 193 r_u27 y).h), false, true⟩
theorem l_u27_1_s (N m : Nat) (n : Int) (q : Int) (l : (List (Int × Int))) (y : (List Int)) (y2 : (List Int)) (y3 : (List (Int × (Int × (List (Int × Int)))))) : l_u27_1 N (m + 1) (n, q, l, y, y2, y3) = cond (decide (q < n))
  (obind (nthI l q) fun z1 =>
   obind (nthI l q) fun z2 =>
   obind (m_u53 N (y, (y2, (y3, (z2.1, z2.2))))) fun z3 =>
   cond (!(decide (z3.1 = (3 : Int))))
    (some (.inr false))
    ((l_u27_1 N m (n, ((IntKind.wrap .i64 (q + (1 : Int))), (l, (y, (y2, y3))))))))
  (some (.inl ())) := by kernel_rfl
theorem m_u27_eq (N : Nat) (s : (List Int)) (s2 : (List Int)) (s3 : (List (Int × (Int × (List (Int × Int)))))) (t : (List Int)) (t2 : (List Int)) (t3 : (List (List Int))) (k : Int) : m_u27 (N + 1) (s, s2, s3, t, t2, t3, k) = obind (m_u32 N ()) fun z1 =>
 cond (!z1)
  (some false)
  (obind (m_u38 N (s, (s2, s3))) fun z2 =>
   cond z2
    (some true)
    (obind (m_u36 N (t, (t2, (t3, (200 : Int))))) fun z3 =>
     cond z3
      (some true)
      (obind (m_u61 N (s, (s2, (s3, (t, (t2, t3)))))) fun z4 =>
       cond (!(decide (z4.1 = (0 : Int))))
        (obind (m_u49 N (z4.2.1, (z4.2.2.1, (z4.2.2.2.1, (s, (s2, s3)))))) fun z5 =>
         cond z5
          (some ((decide (z4.2.2.2.2.1 = (0 : Int))) && (decide (z4.2.2.2.2.2 = (0 : Int)))))
          (some false))
        (obind (m_u53 N (z4.2.1, (z4.2.2.1, (z4.2.2.2.1, (z4.2.2.2.2.1, z4.2.2.2.2.2))))) fun z6 =>
         cond (!(decide (z6.1 = (0 : Int))))
          (some false)
          (obind (m_u48 N (z6.2.1, (z6.2.2.1, (z6.2.2.2.1, (t, (t2, t3)))))) fun z7 =>
           cond (!z7)
            (some false)
            (cond (!(decide ((((List.length z6.2.2.2.2) : Nat) : Int) = (((List.length t) : Nat) : Int))))
              (some false)
              (obind (m_u39 N (z4.2.1, (z4.2.2.1, z4.2.2.2.1))) fun z8 =>
               cond (!z8)
                (some false)
                (cond (!(decide ((((List.length z4.2.2.1) : Nat) : Int) = (IntKind.wrap .i64 ((((List.length s2) : Nat) : Int) - (((List.length z6.2.2.2.2) : Nat) : Int))))))
                  (some false)
                  (obind (remI (IntKind.wrap .i64 k) (((List.length z6.2.2.2.2) : Nat) : Int)) fun z9 =>
                   obind (nthI z6.2.2.2.2 z9) fun z10 =>
                   obind (nthI z6.2.2.2.2 z9) fun z11 =>
                   obind (m_u53 N (z4.2.1, (z4.2.2.1, (z4.2.2.2.1, (z11.1, z11.2))))) fun z12 =>
                   obind (subI t z9 (((List.length t) : Nat) : Int)) fun z13 =>
                   obind (appI (8 : Nat) [] z13) fun z14 =>
                   obind (subI t (0 : Int) z9) fun z15 =>
                   obind (appI (8 : Nat) z14 z15) fun z16 =>
                   obind (subI t2 z9 (((List.length t2) : Nat) : Int)) fun z17 =>
                   obind (appI (8 : Nat) [] z17) fun z18 =>
                   obind (subI t2 (0 : Int) z9) fun z19 =>
                   obind (appI (8 : Nat) z18 z19) fun z20 =>
                   obind (m_u35 N (z16, z20)) fun z21 =>
                   cond (!(decide (z12.1 = (0 : Int))))
                    (some false)
                    (cond (!(decide (z21.1 = (0 : Int))))
                      (some false)
                      (cond (!(decide ((((List.length z12.2.2.2.2) : Nat) : Int) = (((List.length z6.2.2.2.2) : Nat) : Int))))
                        (some false)
                        (obind (m_u48 N (z12.2.1, (z12.2.2.1, (z12.2.2.2.1, (z21.2.1, (z21.2.2.1, z21.2.2.2)))))) fun z22 =>
                         cond (!z22)
                          (some false)
                          (obind (m_u51 N (z4.2.1, (z4.2.2.1, (z4.2.2.2.1, (z4.2.2.2.2.1, z4.2.2.2.2.2))))) fun z23 =>
                           cond (!(decide (z23.1 = (0 : Int))))
                            (some false)
                            (obind (m_u46 N (z23.2.2.1, s2)) fun z24 =>
                             cond (!z24)
                              (some false)
                              (obind (m_u39 N (z23.2.1, (z23.2.2.1, z23.2.2.2))) fun z25 =>
                               cond (!z25)
                                (some false)
                                (obind (l_u27_1 N N ((((List.length z6.2.2.2.2) : Nat) : Int), ((0 : Int), (z6.2.2.2.2, (z23.2.1, (z23.2.2.1, z23.2.2.2)))))) fun z26 =>
                                 (match z26 with
                                 | .inl zy27 => some true
                                 | .inr zy28 => some zy28))))))))))))))))) := by kernel_rfl
theorem c_u27_ok (N : Nat) : (c_u27 N).ok Try.prog := exF_ok (T := T) (CT := ct_u27) (N := N) (fun M => ⟨tOk, (ctAll_cons (c_u32_ok M) (ctAll_cons (c_u38_ok M) (ctAll_cons (c_u36_ok M) (ctAll_cons (c_u61_ok M) (ctAll_cons (c_u49_ok M) (ctAll_cons (c_u53_ok M) (ctAll_cons (c_u48_ok M) (ctAll_cons (c_u39_ok M) (ctAll_cons (c_u35_ok M) (ctAll_cons (c_u51_ok M) (ctAll_cons (c_u46_ok M) ctAll_nil))))))))))), mixed, bwAll⟩) Try.func5 (by kernel_rfl) (by kernel_rfl) p_u27 _ _ [s1, s1, s9, s1, s1, s2, (.i .u8)] r_u27 false true [] (by kernel_rfl) (fun y => by kernel_rfl) (fun _ => ⟨rfl, rfl⟩) (fun y => by kernel_rfl) (m_u27 N) (fun x => by kernel_rfl)
end Go.Proofs.Ytdahghkmejnlgaa
end
noncomputable section
set_option linter.unusedVariables false
set_option linter.unusedSimpArgs false
namespace Go.Proofs.Ytdahghkmejnlgaa
open Go Go.RowKit
theorem right_lens {g f : List Int} {ns : List Nd} (hr : rightS g f ns = true) : g.length ≤ 1000 ∧ f.length ≤ 1000 ∧ ns.length ≤ 1000 ∧ LN ns := by
 obtain ⟨hb, hlen, hc⟩ := rightS_cells.1 hr
 obtain ⟨g1, f1, _⟩ := right_len hb
 refine ⟨g1, f1, by omega, by omega, fun x hx => ?_⟩
 obtain ⟨c, hx⟩ := List.getElem?_of_mem hx
 obtain ⟨a, b⟩ := hc c x hx
 by_cases h : (c : Int) ∈ f
 · rw [a h]; simp
 · have := (fullN_iff.1 (b h)).1; omega
theorem read_right (N : Nat) (hN : Fu + 9 ≤ N) {g f : List Int} {ns : List Nd} (hr : rightS g f ns = true) (h : Hd) : m_u53 N (g, f, ns, h.1, h.2) = some (readS g f ns h) := by
 obtain ⟨h1, h2, _, h3⟩ := right_lens hr
 exact read_eq N hN g f (by omega) (by omega) ns h3 h.1 h.2
theorem give_right (N : Nat) (hN : Fu + 10 ≤ N) {g f : List Int} {ns : List Nd} (hr : rightS g f ns = true) (h : Hd) : m_u51 N (g, f, ns, h.1, h.2) = some (sgiveS g f ns h) := by
 obtain ⟨h1, h2, _, h3⟩ := right_lens hr
 exact sgive_eq N hN g f (by omega) (by omega) ns h3 h.1 h.2
theorem right_right (N : Nat) (hN : Fu + 8 ≤ N) {g f : List Int} {ns : List Nd} (hr : rightS g f ns = true) : m_u39 N (g, f, ns) = some true := by
 obtain ⟨h1, h2, _, h3⟩ := right_lens hr
 rw [sright_eq N hN g f (by omega) (by omega) ns h3, hr]
theorem read_stale {g f : List Int} {ns : List Nd} (hr : rightS g f ns = true) {h : Hd} (hg : goodB g f h.1 h.2 = false) : readS g f ns h = (3, [], [], [], []) := by
 unfold readS
 rw [if_neg (by simp [hr]), if_pos hg]
open Classical in
theorem putS_cases (g f : List Int) (ns : List Nd) (t t2 : List Int) (t3 : List (List Int)) :
   (rightS g f ns = true ∧ TowerR t t2 t3 ∧ (takeN t.length g f).1 = 0 ∧ putS g f ns t t2 t3 = (0, (takeN t.length g f).2.1, (takeN t.length g f).2.2.1, wrK (takeN t.length g f).2.2.2 t t2 t3 ns t.length, toH (takeN t.length g f).2.2.2 0)) ∨
   ((putS g f ns t t2 t3).1 ≠ 0 ∧ putS g f ns t t2 t3 = ((putS g f ns t t2 t3).1, g, f, ns, 0, 0) ∧ (rightS g f ns = true → TowerR t t2 t3 → (takeN t.length g f).1 ≠ 0) ∧ (rightS g f ns = true → ¬ TowerR t t2 t3 → (putS g f ns t t2 t3).1 = 1)) := by
 unfold putS
 by_cases h1 : rightS g f ns = false
 · rw [if_pos h1]; exact .inr ⟨by simp, rfl, (fun q => by rw [h1] at q; cases q), (fun q => by rw [h1] at q; cases q)⟩
 rw [if_neg h1]
 by_cases ht : TowerR t t2 t3
 · rw [if_neg (show ¬ ¬ TowerR t t2 t3 from fun q => q ht)]
   by_cases h0 : (takeN t.length g f).1 = 0
   · rw [if_neg (fun q => q h0)]; exact .inl ⟨by simpa using h1, ht, h0, rfl⟩
   · rw [if_pos h0]; exact .inr ⟨h0, rfl, fun _ _ => h0, fun _ q => absurd ht q⟩
 · rw [if_pos ht]; exact .inr ⟨by simp, rfl, fun _ q => absurd q ht, fun _ _ => rfl⟩
theorem put_leads {g f : List Int} {ns : List Nd} {t t2 : List Int} {t3 : List (List Int)} {g' f' : List Int} {ns' : List Nd} {l : List Hd} (hr : rightS g f ns = true) (P : PutOk g f ns t t2 t3 g' f' ns' l) : leadsFrom l 0 ns' = false := by
 obtain ⟨_, _, hc⟩ := rightS_cells.1 hr
 rw [leadsFrom_iff]
 intro c x hx hne q hq hql
 have hcl : (c : Int) ∉ l.map (·.1) := fun hm => by
   obtain ⟨h, hh, e⟩ := List.mem_map.1 hm
   exact hne h hh (by rw [e, Nat.zero_add])
 rw [(P.same c hcl).2] at hx
 obtain ⟨a, b⟩ := hc c x hx
 by_cases hf : (c : Int) ∈ f
 · rw [a hf] at hq; cases hq
 · exact (P.good q ((fullN_iff.1 (b hf)).2 q hq)).2.2 q hql rfl
theorem tower_lens {t t2 : List Int} {t3 : List (List Int)} (h : TowerR t t2 t3) : Lens (t, t2, t3) := by
 obtain ⟨h1, rfl⟩ := h
 exact build_lens h1
theorem back_loop (N : Nat) (hN : Fu + 9 ≤ N) {g f : List Int} {ns : List Nd} (hr : rightS g f ns = true) (l : List Hd) (hl : l.length ≤ 1000) (hs : ∀ h ∈ l, goodB g f h.1 h.2 = false) : ∀ (k i m : Nat), i + k = l.length → k < m →
   l_u27_1 N m ((l.length : Int), (i : Int), l, g, f, ns) = some (.inl ())
 | k, i, 0, h1, h2 => by omega
 | 0, i, m + 1, h1, h2 => by rw [l_u27_1_s, cd, if_neg (by omega)]
 | k + 1, i, m + 1, h1, h2 => by
   obtain ⟨x, hx⟩ := get_at (xs := l) (i := i) (by omega)
   rw [l_u27_1_s, cd, if_pos (by omega), nth_of hx, ob, ob, read_right N hN hr x, ob, read_stale hr (hs x (List.mem_of_getElem? hx)), cdn, if_pos rfl, w64n (by omega)]
   exact back_loop N hN hr l hl hs k (i + 1) m (by omega) (by omega)
theorem storeBack (N : Nat) (hN : Fu + 12 ≤ N) (g f : List Int) (ns : List Nd) (t t2 : List Int) (t3 : List (List Int)) (k : Int) (hg : g.length ≤ 9223372036854775807) (hf : f.length ≤ 9223372036854775807) (hl : LN ns) (h1 : t.length ≤ 9223372036854775807) (h2 : t2.length ≤ 9223372036854775807) (h3 : t3.length ≤ 9223372036854775807) (hk0 : 0 ≤ k) (hk1 : k ≤ 255) :
   m_u27 N (g, f, ns, t, t2, t3, k) = some true := by
 obtain ⟨N, rfl⟩ : ∃ n, N = n + 1 := ⟨N - 1, by omega⟩
 obtain ⟨b, hb⟩ := sgreat_ex N (by omega) g f ns hl.1
 obtain ⟨b2, hb2⟩ := rgreat_ex N (by omega) t t2 t3 200 h3
 rw [m_u27_eq, alive30 (by omega), ob, hb, ob]
 simp only [Bool.not_true, cond_false]
 cases b with
 | true => rfl
 | false =>
   rw [cond_false, hb2, ob]
   cases b2 with
   | true => rfl
   | false =>
     rw [cond_false, put_eq N (by omega) g f hg hf ns hl t t2 t3 h1 h2, ob, cdn]
     rcases putS_cases g f ns t t2 t3 with ⟨hr, ht, h0, e⟩ | ⟨h0, e, _⟩
     · have P := put_ok hr ht h0
       rw [e]
       generalize hT : takeN t.length g f = r at *
       obtain ⟨rz, g', f', l⟩ := r
       simp only at P h0 ⊢
       obtain ⟨e2, hrows, h1000, hne, hnd⟩ := tower_rows ht
       have hpos : 0 < t.length := List.length_pos_iff.2 hne
       have hH := P.holds
       have hlen := hH.len
       have hz : l[0]? = some (toH l 0) := by
         rw [toH, show (0 : Int).toNat = 0 from rfl, List.getD_eq_getElem?_getD, List.getElem?_eq_getElem (i := 0) (by omega)]; rfl
       have hrd := hold_read P.right hH hz
       rw [rotL_zero, rotL_zero, rotL_zero, ← ht.2] at hrd
       rw [if_pos trivial, read_right N (by omega) P.right, hrd, ob, cdn, if_pos rfl]
       simp only
       rw [rsame_eq N (by omega) _ _ _ _ _ _ (tower_lens ht), ob, decide_eq_true rfl, Bool.not_true, cond_false, cdn, if_pos (by omega), right_right N (by omega) P.right, ob, Bool.not_true, cond_false, cdn]
       obtain ⟨r1, r2, r3, r4⟩ := right_lens hr
       have hfl : f.length = f'.length + l.length := by rw [P.free]; simp
       rw [if_pos (by rw [w64 (by omega) (by omega)]; omega), w64 (x := k) (by omega) (by omega)]
       obtain ⟨kn, rfl⟩ : ∃ kn : Nat, k = (kn : Int) := ⟨k.toNat, by omega⟩
       rw [rem_of (by omega), ob, tmod_nat]
       have hm : kn % l.length < l.length := Nat.mod_lt _ (by omega)
       generalize kn % l.length = i at hm
       obtain ⟨q, hq⟩ := get_at hm
       have hrd2 := hold_read P.right hH hq
       have hT2 := towR_rot (i := i) ht.1
       have hb1 : t.length ≤ 1000 := h1000
       rw [nth_of hq, ob, ob, read_right N (by omega) P.right, hrd2, ob, sub_drop (by omega) (by omega), ob, app_of (by omega) (by simp; omega), ob, sub_take (by omega) (by omega), ob, app_of (by omega) (by simp; omega), ob, sub_drop (by omega) (by omega), ob, app_of (by omega) (by simp; omega), ob, sub_take (by omega) (by omega), ob, app_of (by omega) (by simp; omega), ob]
       have ea : ∀ xs : List Int, [] ++ xs.drop ((i : Int).toNat) ++ xs.take ((i : Int).toNat) = rotL i xs := fun xs => by simp [rotL]
       rw [ea, ea, rbuild_eq N (by omega) _ _ (by rw [rotL_len]; omega) (by rw [rotL_len]; omega), ob, buildOf, if_pos hT2]
       simp only [decide_true, Bool.not_true, cond_false]
       rw [cdn, if_pos (by rw [rotL_len]), rsame_eq N (by omega) _ _ _ _ _ _ (build_lens hT2), ob, decide_eq_true rfl, Bool.not_true, cond_false]
       obtain ⟨f2, ns2, hgv, G⟩ := hold_give P.right hH hz (put_leads hr P)
       rw [give_right N (by omega) P.right, hgv, ob, cdn, if_pos rfl]
       simp only
       have hf2 : f2 = f := by rw [G.free, rotL_zero, List.map_reverse]; exact P.free.symm
       rw [ints_eq N (by omega) _ _ (by rw [hf2]; omega), ob, hf2, decide_eq_true rfl, Bool.not_true, cond_false, ← hf2, right_right N (by omega) G.right, ob, Bool.not_true, cond_false, show ((0 : Int) = ((0 : Nat) : Int)) from rfl, back_loop N (by omega) G.right l (by omega) (fun h hh => G.stale h (by rw [rotL_zero, List.mem_reverse]; exact hh)) l.length 0 N (by omega) (by have := Fu_eq; omega), ob]
     · rw [if_neg h0, e]
       simp only
       rw [ssame_eq N (by omega) _ _ _ _ _ _ hg hf hl, ob]
       simp
end Go.Proofs.Ytdahghkmejnlgaa
end
noncomputable section
set_option linter.unusedVariables false
set_option linter.unusedSimpArgs false
namespace Go.Proofs.Ytdahghkmejnlgaa.lawStoreBack
open Go Go.ChangeShapes Go.WideShapes Go.ChangeAt Go.RowKit
theorem own : ownKnob Try.prog.godebug = none := by kernel_rfl
theorem lOut : laidOutB Try.prog = true := by kernel_rfl
theorem parOk : ∀ t ∈ Try.f5.params.toList, Try.prog.readableRec t = true ∧ t < Try.prog.types.size := by
 intro t ht
 rw [Try.params5] at ht
 simp at ht
 rcases ht with rfl | rfl | rfl
 all_goals exact ⟨by kernel_rfl, of_decide_eq_true (by kernel_rfl)⟩
theorem code0 : tyC Try.prog 9 27 (.pr (.pr (.sl (.i .i64)) (.sl (.i .i64))) (.sl (.pr (.i .i64) (.pr (.i .i64) (.sl (.pr (.i .i64) (.i .i64))))))) = true := by kernel_rfl
theorem code1 : tyC Try.prog 9 35 (.pr (.sl (.i .i64)) (.pr (.sl (.i .i64)) (.sl (.sl (.i .i64))))) = true := by kernel_rfl
theorem code2 : tyC Try.prog 9 5 (.i .u8) = true := by kernel_rfl
theorem agg0 : aggB Try.prog 27 = true := by kernel_rfl
theorem agg1 : aggB Try.prog 35 = true := by kernel_rfl
theorem agg2 : aggB Try.prog 5 = false := by kernel_rfl
theorem res (N : Nat) : (c_u27 N).el true EV (fun e _ => some e) = some (.sc .b true) := by kernel_rfl
set_option maxRecDepth 100000 in
theorem contract (H : Type) (enc : TypeId × Value → H) (W : World) (base : Nat) (args : Array Value) (ds gs : List (DataW H)) (before : List MemPlace)
   (hval : ∀ (j : Nat) t v, Try.f5.params[j]? = some t → args[j]? = some v → Value.okWide Try.prog W .any base t v)
   (hW : DataW.Whole enc Try.prog Try.f5.params.toList Rows.storeBackSpec.vars false W args.toList ds gs before) 
   (hz : (DataW.weightsEach Try.prog (Try.f5.params.toList ++ (OpenSpec.ofChange Rows.storeBackSpec).bare.plain.varTypes Try.prog) (ds ++ gs)).all (· ≤ reachBytes) = true) :
   Calls Try.prog 5 args W fun e W' => ∃ v, e = .returned v ∧ Rows.storeBackSpec.post enc Try.prog Try.f5 false true false false W args v W' := by
 have hW' := hW
 obtain ⟨p, q, hA0, hV, rfl, hfz, hnd⟩ := hW
 have hA : DataW.TrodAll enc Try.prog W 0 (fun _ => true) true Try.f5.params.toList args.toList ds p := hA0
 have hval2 := hval
 rw [Try.params5] at hA hval
 obtain ⟨v0, vs0, d0, ds0, p0, q0, hargs, rfl, rfl, h0, r0⟩ := trodAll_cons hA
 obtain ⟨v1, vs1, d1, ds1, p1, q1, rfl, rfl, rfl, h1, r1⟩ := trodAll_cons r0
 obtain ⟨v2, vs2, d2, ds2, p2, q2, rfl, rfl, rfl, h2, r2⟩ := trodAll_cons r1
 obtain ⟨rfl, rfl, rfl⟩ := trodAll_nil r2
 obtain rfl : args = #[v0, v1, v2] := by cases args; simp_all
 obtain ⟨rfl, rfl⟩ := trodVars_none hV
 refine law_post lOut rfl parOk rfl Try.underlying4 hW' rfl ?_
 clear hW' hA0 hval2
 have hz' := hz
 rw [Try.params5] at hz'
 obtain ⟨y0, f0, z0, a0, b0⟩ := open_argz code0 (hval 0 27 v0 rfl rfl) h0
 replace z0 := z0 fun n hn => of_decide_eq_true (List.all_eq_true.1 hz' n (DataW.weights_mem_each (j := 0) rfl rfl n hn))
 obtain ⟨y1, f1, z1, a1, b1⟩ := open_argz code1 (hval 1 35 v1 rfl rfl) h1
 replace z1 := z1 fun n hn => of_decide_eq_true (List.all_eq_true.1 hz' n (DataW.weights_mem_each (j := 1) rfl rfl n hn))
 obtain ⟨y2, f2, z2, a2, b2⟩ := open_argz code2 (hval 2 5 v2 rfl rfl) h2
 replace z2 := z2 fun n hn => of_decide_eq_true (List.all_eq_true.1 hz' n (DataW.weights_mem_each (j := 2) rfl rfl n hn))
 obtain ⟨N, hN⟩ : ∃ N, Fu + 20 ≤ N := ⟨_, Nat.le_refl _⟩
 have hm : m_u27 N (y0.1.1, y0.1.2, y0.2, y1.1, y1.2.1, y1.2.2, y2) = some true := storeBack N (by omega) _ _ _ _ _ _ _ f0.1.1.1 f0.1.2.1 ⟨f0.2.1, fun x h => (f0.2.2 x h).2.2.1⟩ f1.1.1 f1.2.1.1 f1.2.2.1 (fits_u8 f2).1 (fits_u8 f2).2
 have hc := c_u27_ok N
 have hr := res N
 unfold c_u27 at hc hr
 refine calls_of_ctr hc hm (fun b o u h => by obtain ⟨_, _, _, h, _⟩ := h; cases h) (vs := [v0, v1, v2]) ?_ hr rfl
 · exact LR.cons (a0 agg0) (LR.cons (a1 agg1) (LR.cons (b2 agg2) (LR.nil)))
def witWorld (os : Os) : World := World.holding Try.prog os ⟨#[], #[], []⟩
theorem laid_met (os : Os) : laidMet Try.prog Rows.storeBackRow.laid ((witWorld os).forCall (fun _ _ => 0) ⟨#[], #[.agg #[.slice none 0 0, .slice none 0 0, .slice none 0 0], .agg #[.slice none 0 0, .slice none 0 0, .slice none 0 0], .int .u8 0], []⟩).memory := ⟨[], rfl, List.nodup_nil, fun _ _ h => by cases h⟩
theorem reads (os : Os) {H : Type} (enc : TypeId × Value → H) : ∃ places, DataW.whole enc Try.prog ((witWorld os).forCall (fun _ _ => 0) ⟨#[], #[.agg #[.slice none 0 0, .slice none 0 0, .slice none 0 0], .agg #[.slice none 0 0, .slice none 0 0, .slice none 0 0], .int .u8 0], []⟩).memory Try.f5.params.toList Rows.storeBackSpec.vars false (#[.agg #[.slice none 0 0, .slice none 0 0, .slice none 0 0], .agg #[.slice none 0 0, .slice none 0 0, .slice none 0 0], .int .u8 0] : Array Value).toList 8 = some ([.agg [.agg [.nil, .nil], .nil], .agg [.nil, .nil, .nil], .lit (.int .u8 0)], [], places) :=
 ⟨[], by kernel_rfl⟩
set_option maxRecDepth 100000 in
theorem lifted (os : Os) (started : os.Started) (H : Type) (enc : TypeId × Value → H) (F : Stop.Interp) :
   ReturnsInHanded {} Try.checked os 5 .any ((OpenSpec.ofChange Rows.storeBackSpec).preRow enc Try.prog Try.f5 Rows.storeBackRow.domain false Rows.storeBackRow.laid) (((OpenSpec.ofChange Rows.storeBackSpec).at F).post enc Try.prog Try.f5 false true false false) := by
 obtain ⟨places, hx⟩ := reads os enc
 refine returnsInHanded_of_row (C := Try.checked) (s := (OpenSpec.ofChange Rows.storeBackSpec)) own started (by kernel_rfl) Try.func5
   (witness_row_at (enc := enc) (C := Try.checked) false (witWorld os) #[.agg #[.slice none 0 0, .slice none 0 0, .slice none 0 0], .agg #[.slice none 0 0, .slice none 0 0, .slice none 0 0], .int .u8 0] rfl (by kernel_rfl) (by kernel_rfl) (by kernel_rfl)
     (OpenSpec.preRow_of_cond 8 hx (by kernel_rfl) (fun k hk => by cases hk) (by kernel_rfl) (laid_met os))) ?_
 intro W base args ds gs before hval hW _ hcond hz hL _ _
 exact contract H enc W base args ds gs before hval hW hz
theorem said : Rows.StoreBackSaid :=
 OpenClaim.holds_of_cond 5 Try.f5 rfl rfl rfl rfl rfl rfl rfl ⟨rfl, rfl, rfl, rfl, rfl⟩ rfl rfl rfl rfl rfl (by kernel_rfl) Try.func5 (by kernel_rfl)
   (of_decide_eq_true (by kernel_rfl)) (by unfold Func.isWrapper; first | (rw [if_pos (by decide +kernel)]; kernel_rfl) | (rw [if_neg (by decide +kernel)]; exact ⟨rfl, rfl⟩))
   (fun os started H enc _ F => by rw [OpenClaim.pre_eq_preRow]; exact lifted os started H enc F)
end Go.Proofs.Ytdahghkmejnlgaa.lawStoreBack
end
