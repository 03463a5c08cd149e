/- Sets that are joined, and what the program makes of edges, told plainly. -/
import Derived.Test.YtmgjokihljeemaaSpanA
import Derived.Test.YtmgjokihljeemaaFns
set_option linter.unusedVariables false
set_option linter.unusedSimpArgs false
namespace Go.Proofs.Ytmgjokihljeemaa
open Go Go.RowKit

/-! ### roots -/
def rtf (p : Nat → Nat) : Nat → Nat → Nat
  | 0, v => v
  | k + 1, v => if p v = v then v else rtf p k (p v)
def root (p : Nat → Nat) (v : Nat) : Nat := rtf p v v
theorem rtf_stable {p : Nat → Nat} (hp : ∀ v, p v ≤ v) : ∀ (k v : Nat), v ≤ k → rtf p k v = root p v
  | 0, v, h => by
    have : v = 0 := by omega
    subst this; rfl
  | k + 1, v, h => by
    unfold root
    cases v with
    | zero =>
      have : p 0 = 0 := by have := hp 0; omega
      simp only [rtf, if_pos this]
    | succ v =>
      rw [rtf, rtf]
      by_cases c : p (v + 1) = v + 1
      · rw [if_pos c, if_pos c]
      · have h1 := hp (v + 1)
        rw [if_neg c, if_neg c, rtf_stable hp k _ (by omega), rtf_stable hp v _ (by omega)]
theorem root_step {p : Nat → Nat} (hp : ∀ v, p v ≤ v) (v : Nat) : root p v = if p v = v then v else root p (p v) := by
  rw [← rtf_stable hp (v + 1) v (by omega), rtf]
  split
  · rfl
  · rename_i c
    have h1 := hp v
    exact rtf_stable hp v _ (by omega)
theorem root_par {p : Nat → Nat} (hp : ∀ v, p v ≤ v) (v : Nat) : root p (p v) = root p v := by
  rw [root_step hp v]
  split
  · rename_i c; rw [c, root_step hp v, if_pos c]
  · rfl
theorem root_fix {p : Nat → Nat} (hp : ∀ v, p v ≤ v) : ∀ v, p (root p v) = root p v := fun v => by
  induction v using Nat.strongRecOn with
  | _ v ih =>
    rw [root_step hp v]
    split
    · assumption
    · rename_i c
      have h1 := hp v
      exact ih _ (by omega)
theorem root_le {p : Nat → Nat} (hp : ∀ v, p v ≤ v) : ∀ v, root p v ≤ v := fun v => by
  induction v using Nat.strongRecOn with
  | _ v ih =>
    rw [root_step hp v]
    have h1 := hp v
    split
    · exact Nat.le_refl _
    · rename_i c
      have := ih (p v) (by omega)
      omega
theorem root_self {p : Nat → Nat} (hp : ∀ v, p v ≤ v) {v : Nat} (h : p v = v) : root p v = v := by rw [root_step hp, if_pos h]
/-- a map, turned at one place -/
def upd (p : Nat → Nat) (a b : Nat) : Nat → Nat := fun x => if x = a then b else p x
theorem root_half {p : Nat → Nat} (hp : ∀ v, p v ≤ v) (v x : Nat) : root (upd p v (p (p v))) x = root p x := by
  have hq : ∀ y, upd p v (p (p v)) y ≤ y := fun y => by
    unfold upd
    split
    · rename_i c; subst c; exact Nat.le_trans (hp _) (hp _)
    · exact hp y
  induction x using Nat.strongRecOn with
  | _ x ih =>
    rw [root_step hq x]
    by_cases c : x = v
    · subst c
      have e : upd p x (p (p x)) x = p (p x) := if_pos rfl
      rw [e]
      split
      · rename_i c
        have h1 := hp x
        have h2 := hp (p x)
        exact (root_self hp (by omega)).symm
      · rename_i c
        have h1 := hp x
        have h2 := hp (p x)
        rw [ih _ (by omega), root_par hp, root_par hp]
    · have e : upd p v (p (p v)) x = p x := if_neg c
      rw [e, root_step hp x]
      split
      · rfl
      · have h1 := hp x
        exact ih _ (by omega)
theorem root_join {p : Nat → Nat} (hp : ∀ v, p v ≤ v) {m M : Nat} (hm : p m = m) (hM : p M = M) (hle : m ≤ M) (x : Nat) : root (upd p M m) x = if root p x = M then m else root p x := by
  have hq : ∀ y, upd p M m y ≤ y := fun y => by
    unfold upd
    split
    · rename_i c; subst c; exact hle
    · exact hp y
  induction x using Nat.strongRecOn with
  | _ x ih =>
    rw [root_step hq x]
    by_cases c : x = M
    · subst c
      have e : upd p x m x = m := if_pos rfl
      rw [e, root_self hp hM, if_pos rfl]
      split
      · rename_i c; exact c.symm
      · rename_i c
        refine root_self hq ?_
        unfold upd
        rw [if_neg c, hm]
    · have e : upd p M m x = p x := if_neg c
      rw [e]
      split
      · rename_i c2
        rw [root_self hp c2, if_neg c]
      · have h1 := hp x
        rw [ih _ (by omega), root_par hp]

/-! ### sets -/
def par (s : List Int) (v : Nat) : Nat := (s.getD v 0).toNat
structure Rep (n : Nat) (s : List Int) (c : Nat → Nat) : Prop where
  len : s.length = n
  at_ : ∀ i, i < n → ∃ w : Nat, s[i]? = some (w : Int) ∧ w ≤ i
  cls : ∀ x, x < n → root (par s) x = c x
theorem Rep.par_le {n : Nat} {s : List Int} {c : Nat → Nat} (h : Rep n s c) (v : Nat) : par s v ≤ v := by
  unfold par
  by_cases hv : v < n
  · obtain ⟨w, h1, h2⟩ := h.at_ v hv
    simp only [List.getD_eq_getElem?_getD, h1, Option.getD_some]; omega
  · rw [List.getD_eq_getElem?_getD, List.getElem?_eq_none (by have := h.len; omega)]; simp
theorem Rep.nth {n : Nat} {s : List Int} {c : Nat → Nat} (h : Rep n s c) {v : Nat} (hv : v < n) : nthI s (v : Int) = some ((par s v : Nat) : Int) := by
  obtain ⟨w, h1, h2⟩ := h.at_ v hv
  rw [nth_of h1]
  unfold par
  simp [List.getD_eq_getElem?_getD, h1]
theorem par_set {s : List Int} {v w : Nat} (hv : v < s.length) : par (s.set v (w : Int)) = upd (par s) v w := by
  funext x
  unfold par upd
  simp only [List.getD_eq_getElem?_getD, List.getElem?_set]
  by_cases c : v = x
  · subst c; simp [hv]
  · rw [if_neg c, if_neg (fun e => c e.symm)]
theorem Rep.set {n : Nat} {s : List Int} {c c' : Nat → Nat} (h : Rep n s c) {v w : Nat} (hv : v < n) (hw : w ≤ v) (hc : ∀ x, x < n → root (upd (par s) v w) x = c' x) : Rep n (s.set v (w : Int)) c' := by
  refine ⟨by rw [List.length_set]; exact h.len, fun i hi => ?_, fun x hx => by rw [par_set (by rw [h.len]; exact hv)]; exact hc x hx⟩
  rw [List.getElem?_set]
  by_cases q : v = i
  · subst q
    rw [if_pos rfl, if_pos (by rw [h.len]; exact hv)]
    exact ⟨w, rfl, hw⟩
  · rw [if_neg q]
    exact h.at_ i hi
theorem least_loop (N : Nat) {n : Nat} : ∀ (m v : Nat) (s : List Int) {c : Nat → Nat}, v < m → v < n → Rep n s c →
    ∃ s', l__span_sets_least_o_1 N m ((v : Int), s) = some (((c v : Nat) : Int), s') ∧ Rep n s' c ∧ ∀ j, j < n → par s j = c j → par s' j = c j
  | 0, v, s, c, h, _, _ => absurd h (by omega)
  | m + 1, v, s, c, hm, hv, hr => by
    rw [l__span_sets_least_o_1_s]
    simp only [hr.nth hv, ob, cdn]
    have hp := hr.par_le
    have hpv := hp v
    by_cases q : ((par s v : Nat) : Int) = (v : Int)
    · rw [if_pos q]
      have q' : par s v = v := by omega
      refine ⟨s, ?_, hr, fun j _ h => h⟩
      rw [← hr.cls v hv, root_self hp q']
    · rw [if_neg q]
      have q' : ¬ par s v = v := fun e => q (by rw [e])
      have hpp := hp (par s v)
      simp only [hr.nth (show par s v < n by omega), ob, Int.toNat_natCast]
      have hr2 : Rep n (s.set v ((par s (par s v) : Nat) : Int)) c := hr.set hv (by omega) fun x hx => by rw [root_half hp, hr.cls x hx]
      have ep : par (s.set v ((par s (par s v) : Nat) : Int)) = upd (par s) v (par s (par s v)) := par_set (by rw [hr.len]; exact hv)
      have e1 : par (s.set v ((par s (par s v) : Nat) : Int)) v = par s (par s v) := by rw [ep]; exact if_pos rfl
      simp only [hr2.nth hv, ob, e1]
      obtain ⟨s', h1, h2, h3⟩ := least_loop N m (par s (par s v)) _ (by omega) (by omega) hr2
      refine ⟨s', ?_, h2, fun j hj h => h3 j hj ?_⟩
      · rw [h1]
        have : c (par s (par s v)) = c v := by rw [← hr.cls _ (by omega), root_par hp, root_par hp, hr.cls _ hv]
        rw [this]
      · rw [ep]
        unfold upd
        split
        · rename_i e
          subst e
          rw [h, ← hr.cls j hj, root_fix hp]
        · exact h
theorem least_eq {N : Nat} (hN : Fu + 1 ≤ N) {n v : Nat} {s : List Int} {c : Nat → Nat} (hn : n ≤ 1000) (hv : v < n) (hr : Rep n s c) : ∃ s', m__span_sets_least_o N ((v : Int), s) = some (((c v : Nat) : Int), s') ∧ Rep n s' c ∧ ∀ j, j < n → par s j = c j → par s' j = c j := by
  obtain ⟨M, rfl⟩ : ∃ M, N = M + 1 := ⟨N - 1, by omega⟩
  obtain ⟨s', h1, h2, h3⟩ := least_loop M M v s (by rw [Fu_eq] at hN; omega) hv hr
  exact ⟨s', by rw [m__span_sets_least_o_eq, h1]; rfl, h2, h3⟩
theorem join_eq {N : Nat} (hN : Fu + 2 ≤ N) {n u v : Nat} {s : List Int} {c : Nat → Nat} (hn : n ≤ 1000) (hu : u < n) (hv : v < n) (hr : Rep n s c) :
    ∃ s', m__span_sets_join_o N ((u : Int), (v : Int), s) = some (c u != c v, s') ∧ Rep n s' (jn c u v) := by
  obtain ⟨M, rfl⟩ : ∃ M, N = M + 1 := ⟨N - 1, by omega⟩
  obtain ⟨s1, h1, r1, _⟩ := least_eq (N := M) (by omega) hn hu hr
  obtain ⟨s2, h2, r2, _⟩ := least_eq (N := M) (by omega) hn hv r1
  have hp := r2.par_le
  have cu : c u ≤ u := by rw [← r2.cls u hu]; exact root_le hp u
  have cv : c v ≤ v := by rw [← r2.cls v hv]; exact root_le hp v
  have fu : par s2 (c u) = c u := by rw [← r2.cls u hu]; exact root_fix hp u
  have fv : par s2 (c v) = c v := by rw [← r2.cls v hv]; exact root_fix hp v
  have eM : (if ((c v : Nat) : Int) > ((c u : Nat) : Int) then ((c v : Nat) : Int) else ((c u : Nat) : Int)) = ((max (c u) (c v) : Nat) : Int) := by
    split <;> omega
  have em : (if ((c v : Nat) : Int) < ((c u : Nat) : Int) then ((c v : Nat) : Int) else ((c u : Nat) : Int)) = ((min (c u) (c v) : Nat) : Int) := by
    split <;> omega
  have hMn : max (c u) (c v) < n := by omega
  rw [m__span_sets_join_o_eq]
  simp only [h1, h2, ob, eM, em, r2.nth hMn, Int.toNat_natCast]
  refine ⟨_, ?_, r2.set (w := min (c u) (c v)) hMn (by omega) (c' := jn c u v) fun x hx => ?_⟩
  · congr 2
    by_cases q : c u = c v
    · simp [q]
    · have : ¬ ((c u : Nat) : Int) = ((c v : Nat) : Int) := by omega
      simp [q, this]
  · have hM : par s2 (max (c u) (c v)) = max (c u) (c v) := by
      rcases Nat.le_total (c u) (c v) with k | k
      · rw [Nat.max_eq_right k]; exact fv
      · rw [Nat.max_eq_left k]; exact fu
    have hm : par s2 (min (c u) (c v)) = min (c u) (c v) := by
      rcases Nat.le_total (c u) (c v) with k | k
      · rw [Nat.min_eq_left k]; exact fu
      · rw [Nat.min_eq_right k]; exact fv
    rw [root_join hp hm hM (by omega), r2.cls x hx]
    rfl
theorem alone_loop (N : Nat) {n : Nat} (hn : n ≤ 1000) : ∀ (m i : Nat) (s : List Int), n - i < m → i ≤ n → s.length = n → (∀ j, j < i → s[j]? = some (j : Int)) →
    ∃ s', l_span_alone_1 N m ((n : Int), (i : Int), s) = some s' ∧ s'.length = n ∧ ∀ j, j < n → s'[j]? = some (j : Int)
  | 0, i, s, h, _, _, _ => absurd h (by omega)
  | m + 1, i, s, hm, hi, hl, hs => by
    rw [l_span_alone_1_s, cd]
    by_cases q : i < n
    · rw [if_pos (by omega)]
      obtain ⟨x, hx⟩ := get_at (xs := s) (i := i) (by omega)
      simp only [nth_of hx, ob, w64n (show i < 9223372036854775807 by omega), Int.toNat_natCast]
      refine alone_loop N hn m (i + 1) _ (by omega) (by omega) (by rw [List.length_set]; exact hl) fun j hj => ?_
      rw [List.getElem?_set]
      by_cases k : i = j
      · subst k; rw [if_pos rfl, if_pos (by omega)]
      · rw [if_neg k]; exact hs j (by omega)
    · rw [if_neg (by omega)]
      exact ⟨s, rfl, hl, fun j hj => hs j (by omega)⟩
theorem alone_eq {N : Nat} (hN : Fu + 1 ≤ N) {n : Nat} (hn : n ≤ 1000) : ∃ s, m_span_alone N (n : Int) = some s ∧ Rep n s id := by
  obtain ⟨N, rfl⟩ : ∃ M, N = M + 1 := ⟨N - 1, by omega⟩
  rw [m_span_alone_eq, mak_of (by omega) (by omega) (by omega), ob]
  simp only [Int.toNat_natCast, List.length_replicate]
  obtain ⟨s, h1, h2, h3⟩ := alone_loop N hn N 0 (List.replicate n 0) (by rw [Fu_eq] at hN; omega) (by omega) (by simp) (fun j hj => by omega)
  refine ⟨s, ?_, h2, fun i hi => ⟨i, h3 i hi, Nat.le_refl _⟩, fun x hx => ?_⟩
  · rw [show ((0 : Nat) : Int) = 0 from rfl] at h1
    rw [h1]; rfl
  · have hp : ∀ v, par s v ≤ v := fun v => by
      unfold par
      by_cases hv : v < n
      · simp [List.getD_eq_getElem?_getD, h3 v hv]
      · rw [List.getD_eq_getElem?_getD, List.getElem?_eq_none (by omega)]; simp
    refine root_self hp ?_
    unfold par
    simp [List.getD_eq_getElem?_getD, h3 x hx]

/-! ### edges -/
/-- edges between vertices that are there -/
def edI (e : Nat × Nat) : Int × Int := ((e.1 : Int), (e.2 : Int))
def edN (e : Int × Int) : Nat × Nat := (e.1.toNat, e.2.toNat)
def InE (n : Int) (e : Int × Int) : Prop := (0 ≤ e.1 ∧ e.1 < n) ∧ 0 ≤ e.2 ∧ e.2 < n
instance (n : Int) (e : Int × Int) : Decidable (InE n e) := inferInstanceAs (Decidable (_ ∧ _))
theorem edI_N {n : Int} {e : Int × Int} (h : InE n e) : edI (edN e) = e := by
  obtain ⟨a, b⟩ := e
  have h1 := h.1.1
  have h2 := h.2.1
  simp only at h1 h2
  exact Prod.ext (Int.toNat_of_nonneg h1) (Int.toNat_of_nonneg h2)
theorem InE.nat {n : Nat} {e : Int × Int} (h : InE (n : Int) e) : (edN e).1 < n ∧ (edN e).2 < n := by
  have h1 := h.1
  have h2 := h.2
  exact ⟨by unfold edN; omega, by unfold edN; omega⟩
theorem bools_get : ∀ (l p : List (Nat × Nat)) (i : Nat), (boolsFrom p l)[i]? = (l[i]?).map fun e => joinsB (p ++ l.take i) e
  | [], p, i => by simp [boolsFrom]
  | e :: l, p, 0 => by simp [boolsFrom]
  | e :: l, p, i + 1 => by
    rw [boolsFrom, List.getElem?_cons_succ, List.getElem?_cons_succ, bools_get l (p ++ [e]) i]
    simp
theorem bools_len : ∀ (l p : List (Nat × Nat)), (boolsFrom p l).length = l.length
  | [], p => rfl
  | e :: l, p => by rw [boolsFrom, List.length_cons, List.length_cons, bools_len]
theorem joins_loop (N : Nat) (hN : Fu + 2 ≤ N) {n : Nat} (hn : n ≤ 1000) {l : List (Nat × Nat)} (hl : l.length ≤ 100000) (hE : EdOk n l) : ∀ (m i : Nat) (s : List Int) (out : List Bool), l.length - i < m → i ≤ l.length → out.length = i → Rep n s (clo (l.take i)) →
    ∃ s', l_span_each__span_sets_join_f35o_1 N m (l.map edI, (l.length : Int), (i : Int), s, out) = some (out ++ boolsFrom (l.take i) (l.drop i), s') ∧ Rep n s' (clo l)
  | 0, i, s, out, h, _, _, _ => absurd h (by omega)
  | m + 1, i, s, out, hm, hi, ho, hr => by
    rw [l_span_each__span_sets_join_f35o_1_s, cd]
    by_cases q : i < l.length
    · rw [if_pos (by omega)]
      obtain ⟨x, hx⟩ := get_at (xs := l) (i := i) q
      have hxl := hE x (List.mem_of_getElem? hx)
      have hx' : (l.map edI)[i]? = some (edI x) := by rw [List.getElem?_map, hx]; rfl
      obtain ⟨s1, h1, r1⟩ := join_eq hN hn hxl.1 hxl.2 hr
      have e1 : jn (clo (l.take i)) x.1 x.2 = clo (l.take (i + 1)) := by rw [take_at hx, clo_snoc]
      rw [e1] at r1
      rw [nth_of hx', ob]
      simp only [edI, h1, ob]
      rw [app_of (by omega) (by simp; omega), ob, w64n (by omega)]
      obtain ⟨s2, h2, r2⟩ := joins_loop N hN hn hl hE m (i + 1) s1 (out ++ [clo (l.take i) x.1 != clo (l.take i) x.2]) (by omega) (by omega) (by simp [ho]) r1
      refine ⟨s2, ?_, r2⟩
      rw [h2, drop_at hx, boolsFrom, take_at hx]
      simp [joinsB]
    · rw [if_neg (by omega)]
      refine ⟨s, ?_, ?_⟩
      · rw [List.drop_eq_nil_of_le (by omega)]; simp [boolsFrom]
      · rwa [List.take_of_length_le (by omega)] at hr
theorem joins_eq {N : Nat} (hN : Fu + 4 ≤ N) {n : Nat} (hn : n ≤ 1000) {l : List (Nat × Nat)} (hl : l.length ≤ 100000) (hE : EdOk n l) {s : List Int} (hr : Rep n s id) :
    ∃ s', m__span_sets_joins_o N (l.map edI, s) = some (boolsFrom [] l, s') ∧ Rep n s' (clo l) := by
  obtain ⟨M, rfl⟩ : ∃ M, N = M + 2 := ⟨N - 2, by omega⟩
  obtain ⟨s', h1, h2⟩ := joins_loop M (by omega) hn hl hE M 0 s [] (by rw [Fu_eq] at hN; omega) (by omega) rfl hr
  refine ⟨s', ?_, h2⟩
  rw [m__span_sets_joins_o_eq, m_span_each__span_sets_join_f35o_eq, List.length_map, show (0 : Int) = ((0 : Nat) : Int) from rfl, h1]
  rfl
theorem asked_loop (N : Nat) (n : Int) (l : List (Int × Int)) (hl : l.length ≤ 9223372036854775807) : ∀ (m i : Nat), l.length - i < m → i ≤ l.length →
    l_span_asked_1 N m (n, l, (l.length : Int), (i : Int)) = some (if ∀ e ∈ l.drop i, InE n e then .inl () else .inr 10)
  | 0, i, h, _ => absurd h (by omega)
  | m + 1, i, hm, hi => by
    rw [l_span_asked_1_s, cd]
    by_cases q : i < l.length
    · rw [if_pos (by omega)]
      obtain ⟨x, hx⟩ := get_at (xs := l) (i := i) q
      obtain ⟨a, b⟩ := x
      rw [nth_of hx, ob, drop_at hx, cd, cd, w64n (by omega), asked_loop N n l hl m (i + 1) (by omega) (by omega)]
      simp only
      by_cases c1 : InE n (a, b)
      · have h1 := c1.1
        have h2 := c1.2
        simp only at h1 h2
        rw [if_neg (by split <;> omega), if_neg (by split <;> omega)]
        by_cases c3 : ∀ e ∈ l.drop (i + 1), InE n e
        · rw [if_pos c3, if_pos (List.forall_mem_cons.2 ⟨c1, c3⟩)]
        · rw [if_neg c3, if_neg (fun h => c3 (List.forall_mem_cons.1 h).2)]
      · have : ¬ ((0 ≤ a ∧ a < n) ∧ 0 ≤ b ∧ b < n) := c1
        rw [if_neg (fun h => c1 (List.forall_mem_cons.1 h).1)]
        by_cases k1 : (if b < a then b else a) < 0
        · rw [if_pos k1]
        · rw [if_neg k1]
          by_cases k2 : n ≤ (if b > a then b else a)
          · rw [if_pos k2]
          · exfalso
            refine this ?_
            split at k1 <;> split at k2 <;> omega
    · rw [if_neg (by omega), List.drop_eq_nil_of_le (by omega), if_pos (by simp)]
def askC (n : Int) (l : List (Int × Int)) : Int := if n < 1 ∨ 64 < n then 1 else if ∀ e ∈ l, InE n e then 0 else 10
theorem asked_eq {N : Nat} (hN : Fu + 1 ≤ N) (n : Int) (l : List (Int × Int)) (hl : l.length ≤ 9223372036854775807) : m_span_asked N (n, l) = some (askC n l) := by
  obtain ⟨M, rfl⟩ : ∃ M, N = M + 1 := ⟨N - 1, by omega⟩
  have h0 := asked_loop M n l hl M 0 (by rw [Fu_eq] at hN; omega) (by omega)
  rw [m_span_asked_eq, cd, cd, show (0 : Int) = ((0 : Nat) : Int) from rfl, h0, ob, List.drop_zero]
  unfold askC
  by_cases c1 : n < 1
  · rw [if_pos c1, if_pos (.inl c1)]
  · rw [if_neg c1]
    by_cases c2 : 64 < n
    · rw [if_pos c2, if_pos (.inr c2)]
    · rw [if_neg c2, if_neg (show ¬ (n < 1 ∨ 64 < n) by omega)]
      by_cases c3 : ∀ e ∈ l, InE n e
      · rw [if_pos c3, if_pos c3]; rfl
      · rw [if_neg c3, if_neg c3]

/-! ### classes -/
theorem root_flat {p : Nat → Nat} (hp : ∀ v, p v ≤ v) (v x : Nat) : root (upd p v (root p v)) x = root p x := by
  have hq : ∀ y, upd p v (root p v) y ≤ y := fun y => by
    unfold upd
    split
    · rename_i c; subst c; exact root_le hp _
    · exact hp y
  induction x using Nat.strongRecOn with
  | _ x ih =>
    rw [root_step hq x]
    by_cases c : x = v
    · subst c
      have e : upd p x (root p x) x = root p x := if_pos rfl
      rw [e]
      split
      · rename_i c; exact c.symm
      · rename_i c
        have h1 := root_le hp x
        rw [ih _ (by omega), root_self hp (root_fix hp x)]
    · have e : upd p v (root p v) x = p x := if_neg c
      rw [e, root_step hp x]
      split
      · rfl
      · have h1 := hp x
        exact ih _ (by omega)
theorem classes_loop (N : Nat) (hN : Fu + 1 ≤ N) {n : Nat} (hn : n ≤ 1000) {c : Nat → Nat} : ∀ (m i : Nat) (s : List Int), n - i < m → i ≤ n → Rep n s c → (∀ j, j < i → par s j = c j) →
    l_span_Classes_1 N m ((n : Int), (i : Int), s) = some ((List.range n).map fun v => ((c v : Nat) : Int))
  | 0, i, s, h, _, _, _ => absurd h (by omega)
  | m + 1, i, s, hm, hi, hr, hf => by
    rw [l_span_Classes_1_s, cd]
    by_cases q : i < n
    · rw [if_pos (by omega)]
      obtain ⟨s1, h1, r1, f1⟩ := least_eq hN hn q hr
      rw [h1, ob]
      simp only [r1.nth q, ob, Int.toNat_natCast]
      rw [w64n (by omega)]
      have hp := r1.par_le
      have hc : c i ≤ i := by rw [← r1.cls i q]; exact root_le hp i
      have ep : par (s1.set i ((c i : Nat) : Int)) = upd (par s1) i (c i) := par_set (by rw [r1.len]; exact q)
      refine classes_loop N hN hn m (i + 1) _ (by omega) (by omega) (r1.set q hc fun x hx => ?_) fun j hj => ?_
      · rw [← r1.cls i q, root_flat hp, r1.cls x hx]
      · rw [ep]
        unfold upd
        split
        · rename_i e; rw [e]
        · exact f1 j (by omega) (hf j (by omega))
    · rw [if_neg (by omega)]
      congr 1
      refine List.ext_getElem? fun j => ?_
      rw [List.getElem?_map]
      by_cases k : j < n
      · obtain ⟨w, h1, _⟩ := hr.at_ j k
        have := hf j (by omega)
        unfold par at this
        rw [List.getD_eq_getElem?_getD, h1] at this
        simp at this
        rw [h1, List.getElem?_range k, this]
        rfl
      · rw [List.getElem?_eq_none (by have := hr.len; omega), List.getElem?_eq_none (by simp; omega)]
        rfl
def clsI (n : Int) (l : List (Int × Int)) : List Int := (List.range n.toNat).map fun v => ((clo (l.map edN) v : Nat) : Int)
theorem inE_map {n : Int} {l : List (Int × Int)} (h : ∀ e ∈ l, InE n e) : l = (l.map edN).map edI := by
  rw [List.map_map]
  exact (List.map_id l).symm.trans (List.map_congr_left fun e he => (edI_N (h e he)).symm)
theorem edOk_of {n : Int} {l : List (Int × Int)} (h0 : 0 ≤ n) (h : ∀ e ∈ l, InE n e) : EdOk n.toNat (l.map edN) := fun e he => by
  obtain ⟨x, hx, rfl⟩ := List.mem_map.1 he
  have := h x hx
  have e0 : ((n.toNat : Nat) : Int) = n := Int.toNat_of_nonneg h0
  exact InE.nat (by rw [e0]; exact this)
theorem askC_cases (n : Int) (l : List (Int × Int)) : (askC n l = 1 ∧ (n < 1 ∨ 64 < n)) ∨ (askC n l = 10 ∧ (1 ≤ n ∧ n ≤ 64) ∧ ¬ ∀ e ∈ l, InE n e) ∨ (askC n l = 0 ∧ (1 ≤ n ∧ n ≤ 64) ∧ ∀ e ∈ l, InE n e) := by
  unfold askC
  by_cases c1 : n < 1 ∨ 64 < n
  · exact .inl ⟨if_pos c1, c1⟩
  · rw [if_neg c1]
    by_cases c3 : ∀ e ∈ l, InE n e
    · exact .inr (.inr ⟨if_pos c3, by omega, c3⟩)
    · exact .inr (.inl ⟨if_neg c3, by omega, c3⟩)
theorem classes_eq {N : Nat} (hN : Fu + 5 ≤ N) (n : Int) (l : List (Int × Int)) (hl : l.length ≤ 100000) : m_span_Classes N (n, l) = some (askC n l, if askC n l = 0 then clsI n l else []) := by
  obtain ⟨M, rfl⟩ : ∃ M, N = M + 1 := ⟨N - 1, by omega⟩
  rw [m_span_Classes_eq, asked_eq (by omega) n l (by omega), ob, cdn]
  rcases askC_cases n l with ⟨h, _⟩ | ⟨h, _⟩ | ⟨h, h2, h3⟩
  · rw [h]; rfl
  · rw [h]; rfl
  · rw [h, if_pos rfl, if_pos rfl]
    obtain ⟨k, rfl⟩ : ∃ k : Nat, n = k := ⟨n.toNat, by omega⟩
    obtain ⟨s0, a1, a2⟩ := alone_eq (N := M) (by omega) (n := k) (by omega)
    obtain ⟨s1, b1, b2⟩ := joins_eq (N := M) (by omega) (n := k) (by omega) (l := l.map edN) (by simpa using hl) (edOk_of (by omega) h3) a2
    rw [← inE_map h3] at b1
    rw [a1, ob, b1, ob]
    simp only [b2.len]
    rw [show (0 : Int) = ((0 : Nat) : Int) from rfl, classes_loop M (by omega) (by omega) M 0 s1 (by rw [Fu_eq] at hN; omega) (by omega) b2 (fun j hj => by omega)]
    rfl
/-! ### edges that are chosen -/
theorem spanning_loop (N : Nat) {l : List (Nat × Nat)} (hl : l.length ≤ 100000) : ∀ (m i : Nat) (out : List (Int × Int)), l.length - i < m → i ≤ l.length → out.length ≤ i →
    l_span_Spanning_1 N m (l.map edI, (l.length : Int), (i : Int), out, boolsFrom [] l) = some (out ++ (chosenFrom (l.take i) (l.drop i)).map edI)
  | 0, i, out, h, _, _ => absurd h (by omega)
  | m + 1, i, out, hm, hi, ho => by
    rw [l_span_Spanning_1_s, cd]
    by_cases q : i < l.length
    · rw [if_pos (by omega)]
      obtain ⟨x, hx⟩ := get_at (xs := l) (i := i) q
      have hx' : (l.map edI)[i]? = some (edI x) := by rw [List.getElem?_map, hx]; rfl
      have hb : (boolsFrom [] l)[i]? = some (joinsB (l.take i) x) := by rw [bools_get, hx]; rfl
      simp only [nth_of hb, ob, cb]
      rw [nth_of hx', ob, app_of (by omega) (by simp; omega), ob, w64n (by omega), drop_at hx, chosenFrom, ← take_at hx]
      split
      · rw [spanning_loop N hl m (i + 1) _ (by omega) (by omega) (by simp; omega)]
        simp [edI]
      · rw [spanning_loop N hl m (i + 1) _ (by omega) (by omega) (by omega)]
    · rw [if_neg (by omega), List.drop_eq_nil_of_le (by omega)]
      simp [chosenFrom]
def spanI (l : List (Int × Int)) : List (Int × Int) := (chosen (l.map edN)).map edI
theorem spanning_eq {N : Nat} (hN : Fu + 5 ≤ N) (n : Int) (l : List (Int × Int)) (hl : l.length ≤ 100000) : m_span_Spanning N (n, l) = some (askC n l, if askC n l = 0 then spanI l else []) := by
  obtain ⟨M, rfl⟩ : ∃ M, N = M + 1 := ⟨N - 1, by omega⟩
  rw [m_span_Spanning_eq, asked_eq (by omega) n l (by omega), ob, cdn]
  rcases askC_cases n l with ⟨h, _⟩ | ⟨h, _⟩ | ⟨h, h2, h3⟩
  · rw [h]; rfl
  · rw [h]; rfl
  · rw [h, if_pos rfl, if_pos rfl]
    obtain ⟨k, rfl⟩ : ∃ k : Nat, n = k := ⟨n.toNat, by omega⟩
    obtain ⟨s0, a1, a2⟩ := alone_eq (N := M) (by omega) (n := k) (by omega)
    obtain ⟨s1, b1, b2⟩ := joins_eq (N := M) (by omega) (n := k) (by omega) (l := l.map edN) (by simpa using hl) (edOk_of (by omega) h3) a2
    rw [← inE_map h3] at b1
    rw [a1, ob, b1, ob]
    simp only [bools_len]
    have := spanning_loop M (l := l.map edN) (by simpa using hl) M 0 [] (by rw [Fu_eq] at hN; simp; omega) (by omega) (by simp)
    rw [← inE_map h3] at this
    rw [show (0 : Int) = ((0 : Nat) : Int) from rfl, this]
    rfl
/-! ### how many classes -/
def cntI : Nat → List Int → Nat
  | _, [] => 0
  | i, x :: l => (if x = (i : Int) then 1 else 0) + cntI (i + 1) l
theorem cntI_le : ∀ (l : List Int) (i : Nat), cntI i l ≤ l.length
  | [], i => Nat.le_refl _
  | x :: l, i => by
    have := cntI_le l (i + 1)
    rw [cntI, List.length_cons]
    split <;> omega
theorem count_loop (N : Nat) (e : Int) {l : List Int} (hl : l.length ≤ 100000) : ∀ (m i k : Nat), l.length - i < m → i ≤ l.length → k ≤ i →
    l_span_Count_1 N m (e, (k : Int), (l.length : Int), (i : Int), l) = some (e, ((k + cntI i (l.drop i) : Nat) : Int))
  | 0, i, k, h, _, _ => absurd h (by omega)
  | m + 1, i, k, hm, hi, hk => by
    rw [l_span_Count_1_s, cd]
    by_cases q : i < l.length
    · rw [if_pos (by omega)]
      obtain ⟨x, hx⟩ := get_at (xs := l) (i := i) q
      simp only [nth_of hx, ob, cd]
      rw [w64n (by omega), w64n (by omega), drop_at hx, cntI]
      split
      · rw [count_loop N e hl m (i + 1) (k + 1) (by omega) (by omega) (by omega)]
        congr 3; omega
      · rw [count_loop N e hl m (i + 1) k (by omega) (by omega) (by omega)]
        congr 3; omega
    · rw [if_neg (by omega), List.drop_eq_nil_of_le (by omega)]
      simp [cntI]
theorem cntI_range (c : Nat → Nat) : ∀ (k i : Nat), cntI i ((List.range' i k).map fun v => ((c v : Nat) : Int)) = ((List.range' i k).filter fun v => c v == v).length
  | 0, i => rfl
  | k + 1, i => by
    rw [List.range'_succ, List.map_cons, cntI, cntI_range c k (i + 1), List.filter_cons]
    by_cases q : c i = i
    · rw [if_pos (by omega), if_pos (by simpa using q)]; simp; omega
    · rw [if_neg (by omega), if_neg (by simpa using q)]; omega
theorem cntI_cls (n : Int) (l : List (Int × Int)) : cntI 0 (clsI n l) = cnt n.toNat (clo (l.map edN)) := by
  unfold clsI cnt
  rw [List.range_eq_range', cntI_range]
theorem count_eq {N : Nat} (hN : Fu + 6 ≤ N) (n : Int) (l : List (Int × Int)) (hl : l.length ≤ 100000) : m_span_Count N (n, l) = some (if askC n l = 0 then ((cnt n.toNat (clo (l.map edN)) : Nat) : Int) else 0, askC n l) := by
  obtain ⟨M, rfl⟩ : ∃ M, N = M + 1 := ⟨N - 1, by omega⟩
  rw [m_span_Count_eq, classes_eq (by omega) n l hl, ob]
  have hle : (if askC n l = 0 then clsI n l else []).length ≤ 100000 := by
    rcases askC_cases n l with ⟨h, _⟩ | ⟨h, _⟩ | ⟨h, h2, h3⟩
    · rw [h]; simp
    · rw [h]; simp
    · rw [h]; simp [clsI]; omega
  have := count_loop M (askC n l) hle M 0 0 (by rw [Fu_eq] at hN; omega) (by omega) (by omega)
  simp only [show ((0 : Nat) : Int) = (0 : Int) from rfl] at this
  rw [this, ob, List.drop_zero, Nat.zero_add]
  by_cases c : askC n l = 0
  · rw [if_pos c, if_pos c, cntI_cls]
  · rw [if_neg c, if_neg c]; rfl
end Go.Proofs.Ytmgjokihljeemaa
