/- The pool's laws: PoolAlone, PoolOrder: they compute 'true'. -/
import Derived.Test.YtiejnblpmfgpbaaPoolD
set_option linter.unusedVariables false
set_option linter.unusedSimpArgs false
namespace Go.Proofs.Ytiejnblpmfgpbaa
open Go Go.RowKit

structure AInv (K i : Nat) (gens free : List Int) (good gone : List (Int × Int)) : Prop where
  k0 : 1 ≤ K
  k1 : K ≤ 20
  i1 : i ≤ 100
  gl : gens.length = K
  gr : ∀ g ∈ gens, 0 ≤ g ∧ g ≤ i
  fr : FreeR K free
  nd : (good.map (·.1)).Nodup
  gd : ∀ h ∈ good, 0 ≤ h.1 ∧ h.1 < K ∧ gens.getD h.1.toNat 0 = h.2 ∧ h.1 ∉ free
  cnt : good.length + free.length = K
  gn : ∀ h ∈ gone, 0 ≤ h.1 ∧ h.1 < K ∧ h.2 ≤ gens.getD h.1.toNat 0 ∧ (h.2 = gens.getD h.1.toNat 0 → h.1 ∈ free)
  gnl : gone.length ≤ i
theorem AInv.right {K i : Nat} {gens free : List Int} {good gone : List (Int × Int)} (h : AInv K i gens free good gone) : rightB gens free = true :=
  rightB_iff.2 ⟨⟨by intro e; have := h.gl; have := h.k0; rw [e] at *; simp at *; omega, by rw [h.gl]; have := h.k1; omega, fun g hg => by have := h.gr g hg; have := h.i1; omega⟩, by rw [h.gl]; exact h.fr⟩
theorem AInv.next {K i : Nat} {gens free : List Int} {good gone : List (Int × Int)} (h : AInv K i gens free good gone) (hi : i + 1 ≤ 100) : AInv K (i + 1) gens free good gone :=
  { h with i1 := hi, gr := fun g hg => by have := h.gr g hg; omega, gnl := by have := h.gnl; omega }
theorem getD_set_ne {l : List Int} {c d : Nat} {x : Int} (h : c ≠ d) : (l.set c x).getD d 0 = l.getD d 0 := by
  simp [List.getD, List.getElem?_set_ne h]
theorem AInv.take {K i : Nat} {gens free : List Int} {good gone : List (Int × Int)} (h : AInv K i gens free good gone) (hi : i + 1 ≤ 100) :
    (takeP gens free = (2, gens, free, 0, 0) ∧ good.length = K) ∨ ∃ c, good.length < K ∧ takeP gens free = (0, gens.set c.toNat (gens.getD c.toNat 0 + 1), free.dropLast, c, gens.getD c.toNat 0 + 1) ∧
      AInv K (i + 1) (gens.set c.toNat (gens.getD c.toNat 0 + 1)) free.dropLast (good ++ [(c, gens.getD c.toNat 0 + 1)]) gone := by
  have hr := h.right
  have hcnt := h.cnt
  cases hc : free.getLast? with
  | none =>
    have hf : free = [] := by simpa using hc
    refine .inl ⟨?_, by subst hf; simpa using hcnt⟩
    unfold takeP; rw [if_pos hr, hc]
  | some c =>
    have hm : c ∈ free := List.mem_of_getLast? hc
    have hpos : 0 < free.length := List.length_pos_of_mem hm
    obtain ⟨f0, f1⟩ := h.fr.1 c hm
    obtain ⟨g, hg1, hg2⟩ := nth_ex (xs := gens) (j := c) f0 (by rw [h.gl]; exact f1)
    have hgr := h.gr g (List.mem_of_getElem? hg1)
    have hgx := getD_at hg1
    have hi1 := h.i1
    obtain ⟨e3, c0, c1, c2, c3⟩ := takeP_ok hr hc (by rw [hgx]; omega)
    refine .inr ⟨c, by omega, e3, ?_⟩
    have hset : ∀ d : Int, 0 ≤ d → d ≠ c → (gens.set c.toNat (gens.getD c.toNat 0 + 1)).getD d.toNat 0 = gens.getD d.toNat 0 := fun d hd hne => getD_set_ne (by omega)
    have hself : (gens.set c.toNat (gens.getD c.toNat 0 + 1)).getD c.toNat 0 = gens.getD c.toNat 0 + 1 := getD_set (by omega)
    have hsub : ∀ d, d ∈ free.dropLast → d ∈ free := fun d hd => List.dropLast_subset free hd
    have hin : ∀ d, d ∈ free → d ≠ c → d ∈ free.dropLast := fun d hd hne => by
      rw [dropLast_last hc] at hd
      rcases List.mem_append.1 hd with hd | hd
      · exact hd
      · simp at hd; exact absurd hd hne
    refine { k0 := h.k0, k1 := h.k1, i1 := hi, gl := by rw [List.length_set]; exact h.gl, gr := ?_, fr := ?_, nd := ?_, gd := ?_, cnt := ?_, gn := ?_, gnl := by have := h.gnl; omega }
    · intro y hy
      rcases mem_set hy with rfl | hy
      · rw [hgx]; omega
      · have := h.gr y hy; omega
    · have := (rightB_iff.1 c3).2
      rwa [List.length_set, h.gl] at this
    · rw [List.map_append, List.nodup_append]
      refine ⟨h.nd, by simp, fun a ha b hb => ?_⟩
      simp at hb; subst hb
      obtain ⟨q, hq, rfl⟩ := List.mem_map.1 ha
      intro e
      exact (h.gd q hq).2.2.2 (by rw [e]; exact hm)
    · intro q hq
      rcases List.mem_append.1 hq with hq | hq
      · have := h.gd q hq
        have hne : q.1 ≠ c := fun e => this.2.2.2 (by rw [e]; exact hm)
        refine ⟨this.1, this.2.1, by rw [hset _ this.1 hne]; exact this.2.2.1, fun hd => this.2.2.2 (hsub _ hd)⟩
      · simp at hq; subst hq
        exact ⟨f0, f1, hself, c2⟩
    · simp; omega
    · intro q hq
      have := h.gn q hq
      by_cases hne : q.1 = c
      · rw [hne] at this ⊢
        rw [hself]
        exact ⟨this.1, this.2.1, by omega, fun e => by omega⟩
      · rw [hset _ this.1 hne]
        exact ⟨this.1, this.2.1, this.2.2.1, fun e => hin _ (this.2.2.2 e) hne⟩
theorem AInv.give {K i j : Nat} {gens free : List Int} {good gone : List (Int × Int)} (h : AInv K i gens free good gone) (hi : i + 1 ≤ 100) {q : Int × Int} (hq : good[j]? = some q) :
    giveP gens free q.1 q.2 = (0, gens, free ++ [q.1]) ∧ AInv K (i + 1) gens (free ++ [q.1]) (good.take j ++ good.drop (j + 1)) (gone ++ [q]) := by
  have hm : q ∈ good := List.mem_of_getElem? hq
  have hd := h.gd q hm
  have hgd : goodB gens free q.1 q.2 = true := goodB_iff.2 ⟨h.right, hd.1, by rw [h.gl]; exact hd.2.1, hd.2.2.1, hd.2.2.2⟩
  obtain ⟨e1, e2⟩ := giveP_ok hgd
  have hjl : j < good.length := (List.getElem?_eq_some_iff.1 hq).1
  have hsplit : good = good.take j ++ q :: good.drop (j + 1) := by
    rw [← drop_at hq, List.take_append_drop]
  have hnd := h.nd
  rw [hsplit, List.map_append, List.map_cons, List.nodup_append] at hnd
  obtain ⟨n1, n2, n3⟩ := hnd
  rw [List.nodup_cons] at n2
  have hsub : ∀ x, x ∈ good.take j ++ good.drop (j + 1) → x ∈ good ∧ x.1 ≠ q.1 := by
    intro x hx
    rcases List.mem_append.1 hx with hx | hx
    · exact ⟨List.mem_of_mem_take hx, n3 x.1 (List.mem_map_of_mem hx) q.1 (by simp)⟩
    · exact ⟨List.mem_of_mem_drop hx, fun e => n2.1 (by rw [← e]; exact List.mem_map_of_mem hx)⟩
  refine ⟨e1, { k0 := h.k0, k1 := h.k1, i1 := hi, gl := h.gl, gr := fun g hg => by have := h.gr g hg; omega, fr := ?_, nd := ?_, gd := ?_, cnt := ?_, gn := ?_, gnl := by have := h.gnl; simp; omega }⟩
  · have := (rightB_iff.1 e2).2
    rwa [h.gl] at this
  · rw [List.map_append, List.nodup_append]
    exact ⟨n1, n2.2, fun a ha b hb => n3 a ha b (List.mem_cons_of_mem _ hb)⟩
  · intro x hx
    obtain ⟨x1, x2⟩ := hsub x hx
    have := h.gd x x1
    refine ⟨this.1, this.2.1, this.2.2.1, fun hf => ?_⟩
    rcases List.mem_append.1 hf with hf | hf
    · exact this.2.2.2 hf
    · simp at hf; exact x2 hf
  · have := h.cnt
    simp only [List.length_append, List.length_take, List.length_drop, List.length_singleton]
    omega
  · intro x hx
    rcases List.mem_append.1 hx with hx | hx
    · have := h.gn x hx
      exact ⟨this.1, this.2.1, this.2.2.1, fun e => List.mem_append.2 (.inl (this.2.2.2 e))⟩
    · simp at hx; subst hx
      exact ⟨hd.1, hd.2.1, by rw [hd.2.2.1]; exact Int.le_refl _, fun _ => by simp⟩
theorem nodup_rev {α : Type} {l : List α} (h : l.Nodup) : l.reverse.Nodup := by
  rw [List.nodup_iff_pairwise_ne, List.pairwise_reverse]
  exact (List.nodup_iff_pairwise_ne.1 h).imp fun h => h.symm
theorem alone_loop1 (N : Nat) (hN : Fu + 4 ≤ N) (n : Int) (K : Nat) (hK : IntKind.wrap .i64 ((1 : Int) + (Int.tmod (IntKind.wrap .i64 n) (20 : Int))) = (K : Int)) (acts : List Int) (ha : ∀ a ∈ acts, 0 ≤ a ∧ a ≤ 255) (hl : acts.length ≤ 100) :
    ∀ (k i m : Nat) (gens free : List Int) (good gone : List (Int × Int)), i + k = acts.length → k < m → AInv K i gens free good gone →
    ∃ gens' free' good' gone', l_law02_PoolAlone_1 N m (n, acts, (i : Int), gens, free, good, gone) = some (.inl (gens', free', good', gone')) ∧ AInv K acts.length gens' free' good' gone'
  | k, i, 0, gens, free, good, gone, h1, h2, hv => by omega
  | 0, i, m + 1, gens, free, good, gone, h1, h2, hv => by
    rw [l_law02_PoolAlone_1_s, cd, if_neg (by omega)]
    have : i = acts.length := by omega
    subst this
    exact ⟨_, _, _, _, rfl, hv⟩
  | k + 1, i, m + 1, gens, free, good, gone, h1, h2, hv => by
    obtain ⟨a, hA⟩ := get_at (xs := acts) (i := i) (by omega)
    obtain ⟨a0, a1⟩ := ha a (List.mem_of_getElem? hA)
    have hrl := right_len hv.right
    have hcnt := hv.cnt
    have hk1 := hv.k1
    have tk : ∃ gens' free' good' gone', cond (!((decide ((takeP gens free).1 = (0 : Int))) == (decide ((((List.length good) : Nat) : Int) < (K : Int)))))
         (some (.inr false))
         (cond (decide ((takeP gens free).1 = (0 : Int)))
           (obind (appI (16 : Nat) good [((takeP gens free).2.2.2.1, (takeP gens free).2.2.2.2)]) fun z5 =>
            (l_law02_PoolAlone_1 N m (n, (acts, (((i + 1 : Nat) : Int), ((takeP gens free).2.1, ((takeP gens free).2.2.1, (z5, gone))))))))
           ((l_law02_PoolAlone_1 N m (n, (acts, (((i + 1 : Nat) : Int), (gens, (free, (good, gone)))))))))  = some (.inl (gens', free', good', gone')) ∧ AInv K acts.length gens' free' good' gone' := by
      rcases hv.take (by omega) with ⟨e, hlen⟩ | ⟨c, hlen, e, hv'⟩
      · rw [e]
        dsimp only
        have e0 : (!((decide ((2 : Int) = 0)) == (decide ((((List.length good) : Nat) : Int) < (K : Int))))) = false := by simp; omega
        rw [e0, cond_false, cd, if_neg (by decide)]
        exact alone_loop1 N hN n K hK acts ha hl k (i + 1) m _ _ _ _ (by omega) (by omega) (hv.next (by omega))
      · rw [e]
        dsimp only
        have e0 : (!((decide ((0 : Int) = 0)) == (decide ((((List.length good) : Nat) : Int) < (K : Int))))) = false := by simp; omega
        rw [e0, cond_false, cd, if_pos rfl, app_of (by omega) (by simp; omega), ob]
        exact alone_loop1 N hN n K hK acts ha hl k (i + 1) m _ _ _ _ (by omega) (by omega) hv'
    rw [l_law02_PoolAlone_1_s, cd, if_pos (by omega), nth_of hA, ob, take_eq N (by omega) _ _ (by omega) (by omega), ob, cd, w64n (by omega), hK]
    by_cases c1 : Int.tmod a 2 = 0
    · rw [if_pos c1]; exact tk
    rw [if_neg c1, cd]
    by_cases c2 : good.length = 0
    · rw [if_pos (by omega)]; exact tk
    rw [if_neg (by omega), ob]
    obtain ⟨b, rfl⟩ : ∃ b : Nat, a = b := ⟨a.toNat, by omega⟩
    have e2 : IntKind.wrap .i64 (IntKind.wrap .u8 (Int.tdiv (b : Int) 2)) = ((b / 2 : Nat) : Int) := by
      rw [show (2 : Int) = ((2 : Nat) : Int) from rfl, tdiv_nat, wu8 (by omega) (by omega), w64 (by omega) (by omega)]
    rw [e2, rem_of (by omega), ob, tmod_nat]
    have hj : b / 2 % good.length < good.length := Nat.mod_lt _ (by omega)
    generalize b / 2 % good.length = j at hj
    obtain ⟨q, hq⟩ := get_at hj
    obtain ⟨e3, hv'⟩ := hv.give (by omega) hq
    have hgl := hv.gnl
    rw [nth_of hq, ob, ob, give_eq N (by omega) _ _ _ _ (by omega) (by omega), ob, e3]
    simp only [decide_true, Bool.not_true, cond_false]
    rw [ob, ob, app_of (by omega) (by simp; omega), ob, sub_take (by omega) (by omega), ob, app_of (by omega) (by simp; omega), ob, w64n (by omega), sub_drop (by omega) (by omega), ob, app_of (by omega) (by simp; omega), ob]
    simp only [Int.toNat_natCast, List.nil_append]
    exact alone_loop1 N hN n K hK acts ha hl k (i + 1) m _ _ _ _ (by omega) (by omega) hv'
theorem alone_loop2 (N : Nat) (hN : Fu + 4 ≤ N) (gens free : List Int) (good gone : List (Int × Int)) (l1 : gens.length ≤ 1000) (l2 : free.length ≤ 1000) (hl : gone.length ≤ 1000) (hb : ∀ q ∈ gone, goodB gens free q.1 q.2 = false) : ∀ (k i m : Nat), i + k = gone.length → k < m →
    l_law02_PoolAlone_2 N m ((i : Int), gens, free, good, gone) = some (.inl (gens, free, good))
  | k, i, 0, h1, h2 => by omega
  | 0, i, m + 1, h1, h2 => by
    rw [l_law02_PoolAlone_2_s, cd, if_neg (by omega)]
  | k + 1, i, m + 1, h1, h2 => by
    obtain ⟨x, hx⟩ := get_at (xs := gone) (i := i) (by omega)
    rw [l_law02_PoolAlone_2_s, cd, if_pos (by omega), nth_of hx, ob, ob, good_eq N (by omega) _ _ _ _ (by omega) (by omega), ob, hb x (List.mem_of_getElem? hx), cond_false, w64n (by omega)]
    exact alone_loop2 N hN gens free good gone l1 l2 hl hb k (i + 1) m (by omega) (by omega)
theorem alone_loop4 (N : Nat) (gens free : List Int) (good : List (Int × Int)) (hl : good.length ≤ 1000) (hn : (good.map (·.1)).Nodup) (i : Nat) (hi : i < good.length) : ∀ (k j m : Nat), j + k = i → k < m →
    l_law02_PoolAlone_4 N m ((i : Int), (j : Int), gens, free, good) = some (.inl ((i : Int), gens, free, good))
  | k, j, 0, h1, h2 => by omega
  | 0, j, m + 1, h1, h2 => by
    rw [l_law02_PoolAlone_4_s, cd, if_neg (by omega)]
  | k + 1, j, m + 1, h1, h2 => by
    obtain ⟨x, hx⟩ := get_at (xs := good) (i := j) (by omega)
    obtain ⟨y, hy⟩ := get_at (xs := good) (i := i) (by omega)
    have hne : ¬ x.1 = y.1 := by
      intro e
      have h3 : (good.map (·.1))[j]? = some x.1 := by rw [List.getElem?_map, hx]; rfl
      have h4 : (good.map (·.1))[i]? = some y.1 := by rw [List.getElem?_map, hy]; rfl
      have := (List.nodup_iff_pairwise_ne.1 hn)
      have h5 := List.pairwise_iff_getElem.1 this j i (by simp; omega) (by simp; omega) (by omega)
      rw [List.getElem?_eq_some_iff] at h3 h4
      obtain ⟨_, h3⟩ := h3
      obtain ⟨_, h4⟩ := h4
      rw [h3, h4] at h5
      exact h5 e
    rw [l_law02_PoolAlone_4_s, cd, if_pos (by omega), nth_of hx, ob, ob, nth_of hy, ob, ob, cd, if_neg hne, w64n (by omega)]
    exact alone_loop4 N gens free good hl hn i hi k (j + 1) m (by omega) (by omega)
theorem alone_loop3 (N : Nat) (hN : Fu + 4 ≤ N) (gens free : List Int) (good : List (Int × Int)) (l1 : gens.length ≤ 1000) (l2 : free.length ≤ 1000) (hl : good.length ≤ 1000) (hn : (good.map (·.1)).Nodup) (hb : ∀ q ∈ good, goodB gens free q.1 q.2 = true) : ∀ (k i m : Nat), i + k = good.length → k < m →
    l_law02_PoolAlone_3 N m ((i : Int), gens, free, good) = some (.inl (gens, free, good))
  | k, i, 0, h1, h2 => by omega
  | 0, i, m + 1, h1, h2 => by
    rw [l_law02_PoolAlone_3_s, cd, if_neg (by omega)]
  | k + 1, i, m + 1, h1, h2 => by
    obtain ⟨x, hx⟩ := get_at (xs := good) (i := i) (by omega)
    have h4 := alone_loop4 N gens free good hl hn i (by omega) i 0 N (by omega) (by have := Fu_eq; omega)
    rw [show (((0 : Nat) : Int) = 0) from rfl] at h4
    rw [l_law02_PoolAlone_3_s, cd, if_pos (by omega), nth_of hx, ob, ob, good_eq N (by omega) _ _ _ _ (by omega) (by omega), ob, hb x (List.mem_of_getElem? hx), Bool.not_true, cond_false, h4, ob]
    simp only []
    rw [w64n (by omega)]
    exact alone_loop3 N hN gens free good l1 l2 hl hn hb k (i + 1) m (by omega) (by omega)
theorem filter_split {α : Type} (p : α → Bool) : ∀ l : List α, (l.filter p).length + (l.filter fun x => !p x).length = l.length
  | [] => rfl
  | x :: l => by
    have := filter_split p l
    cases h : p x <;> simp [h] <;> omega
theorem upI_nodup (n : Nat) : (upI n).Nodup := by
  unfold upI
  rw [List.nodup_iff_pairwise_ne, List.pairwise_map]
  exact (List.nodup_iff_pairwise_ne.1 List.nodup_range).imp fun h e => h (Int.ofNat.inj e)
theorem taken_len {gens free : List Int} (h : rightB gens free = true) : (takenL gens free).length + free.length = gens.length := by
  unfold takenL
  rw [if_pos h]
  have hf := (rightB_iff.1 h).2
  have h1 := filter_split (fun c => decide (c ∈ free)) (upI gens.length)
  rw [upI_len] at h1
  have h2 : ((upI gens.length).filter fun c => decide (c ∈ free)).length = free.length := by
    apply Nat.le_antisymm
    · exact nodup_sub ((List.filter_sublist).nodup (upI_nodup _)) (fun x hx => by simpa using (List.mem_filter.1 hx).2)
    · exact nodup_sub hf.2 (fun x hx => List.mem_filter.2 ⟨mem_upI.2 (hf.1 x hx), by simpa using hx⟩)
  omega
theorem K_of {n : Int} (h0 : 0 ≤ n) (h1 : n ≤ 255) : ∃ K : Nat, IntKind.wrap .i64 ((1 : Int) + (Int.tmod (IntKind.wrap .i64 n) (20 : Int))) = (K : Int) ∧ 1 ≤ K ∧ K ≤ 20 := by
  obtain ⟨a, rfl⟩ : ∃ a : Nat, n = a := ⟨n.toNat, by omega⟩
  refine ⟨1 + a % 20, ?_, by omega, by omega⟩
  rw [w64 (x := (a : Int)) (by omega) (by omega), show (20 : Int) = ((20 : Nat) : Int) from rfl, tmod_nat, w64 (by omega) (by omega)]
  omega
theorem makeP_ok {K : Nat} (h0 : 1 ≤ K) (h1 : K ≤ 20) : makeP (K : Int) = (0, List.replicate K 0, (upI K).reverse) := by
  unfold makeP
  rw [if_neg (by omega), Int.toNat_natCast]
theorem rev_free (K : Nat) : FreeR K (upI K).reverse := ⟨fun f hf => mem_upI.1 (by simpa using hf), nodup_rev (upI_nodup K)⟩
theorem poolAlone (N : Nat) (hN : Fu + 6 ≤ N) (n : Int) (acts : List Int) (n0 : 0 ≤ n) (n1 : n ≤ 255) (ha : ∀ a ∈ acts, 0 ≤ a ∧ a ≤ 255) : m_law02_PoolAlone N (n, acts) = some true := by
  obtain ⟨N, rfl⟩ : ∃ n, N = n + 1 := ⟨N - 1, by omega⟩
  obtain ⟨K, hK, k0, k1⟩ := K_of n0 n1
  rw [m_law02_PoolAlone_eq, pool_alive N (by omega), ob]
  simp only [Bool.not_true, cond_false]
  rw [cd]
  by_cases hl : 100 < acts.length
  · rw [if_pos (by omega)]
  rw [if_neg (by omega), hK, make_eq N (by omega), ob, makeP_ok k0 k1]
  simp only [decide_true, Bool.not_true, cond_false]
  have hv0 : AInv K 0 (List.replicate K 0) (upI K).reverse [] [] :=
    { k0 := k0, k1 := k1, i1 := by omega, gl := by simp, gr := fun g hg => by have := List.eq_of_mem_replicate hg; omega, fr := rev_free K, nd := by simp, gd := by simp, cnt := by simp [upI], gn := by simp, gnl := by simp }
  obtain ⟨gens, free, good, gone, h1, hv⟩ := alone_loop1 N (by omega) n K hK acts ha (by omega) acts.length 0 N _ _ _ _ (by omega) (by have := Fu_eq; omega) hv0
  rw [show (((0 : Nat) : Int) = 0) from rfl] at h1
  have hr := hv.right
  obtain ⟨l1, l2, -⟩ := right_len hr
  have hcnt := hv.cnt
  have hgl := hv.gl
  have hgn := hv.gnl
  rw [h1, ob]
  simp only []
  have h2 := alone_loop2 N (by omega) gens free good gone l1 l2 (by omega) (fun q hq => by
    rw [Bool.eq_false_iff]; intro hb
    have hb := goodB_iff.1 hb
    exact hb.2.2.2.2 ((hv.gn q hq).2.2.2 hb.2.2.2.1.symm)) gone.length 0 N (by omega) (by have := Fu_eq; omega)
  rw [show (((0 : Nat) : Int) = 0) from rfl] at h2
  rw [h2, ob]
  simp only []
  have h3 := alone_loop3 N (by omega) gens free good l1 l2 (by omega) hv.nd (fun q hq => goodB_iff.2 (by
    have := hv.gd q hq
    exact ⟨hr, this.1, by rw [hgl]; exact this.2.1, this.2.2.1, this.2.2.2⟩)) good.length 0 N (by omega) (by have := Fu_eq; omega)
  rw [show (((0 : Nat) : Int) = 0) from rfl] at h3
  rw [h3, ob]
  simp only []
  have h4 := taken_len hr
  rw [taken_eq N (by omega) _ _ (by omega) (by omega), ob, cd, if_pos (by omega), right_eq N (by omega) _ _ (by omega) (by omega), ob, hr]

/-! PoolOrder -/
theorem order_right (K : Nat) (h0 : 1 ≤ K) (h1 : K ≤ 20) (gens free : List Int) (hl : gens.length = K) (hg : ∀ g ∈ gens, 0 ≤ g ∧ g ≤ 2) (hf : FreeR K free) : rightB gens free = true :=
  rightB_iff.2 ⟨⟨by intro e; rw [e] at hl; simp at hl; omega, by omega, fun g hg' => by have := hg g hg'; omega⟩, by rw [hl]; exact hf⟩
def gensO (K i : Nat) : List Int := List.replicate i 1 ++ List.replicate (K - i) 0
def freeO (K i : Nat) : List Int := ((upI K).drop i).reverse
def allO (i : Nat) : List (Int × Int) := (upI i).map fun c => (c, 1)
theorem upI_at {n i : Nat} (h : i < n) : (upI n)[i]? = some (i : Int) := by simp [upI, h]
theorem freeO_right (K i : Nat) : FreeR K (freeO K i) :=
  ⟨fun f hf => by simp only [freeO, List.mem_reverse] at hf; exact mem_upI.1 (List.mem_of_mem_drop hf), nodup_rev ((List.drop_sublist i _).nodup (upI_nodup K))⟩
theorem gensO_mem {K i : Nat} : ∀ g ∈ gensO K i, 0 ≤ g ∧ g ≤ 2 := by
  intro g hg
  rcases List.mem_append.1 hg with hg | hg <;> (have := List.eq_of_mem_replicate hg; omega)
theorem gensO_len {K i : Nat} (h : i ≤ K) : (gensO K i).length = K := by simp [gensO]; omega
theorem gensO_get {K i : Nat} (h : i < K) : (gensO K i).getD i 0 = 0 := by
  apply getD_at
  unfold gensO
  rw [List.getElem?_append_right (by simp), List.length_replicate, Nat.sub_self, List.getElem?_replicate, if_pos (by omega)]
theorem gensO_set {K i : Nat} (h : i < K) : (gensO K i).set i 1 = gensO K (i + 1) := by
  unfold gensO
  have : K - i = (K - (i + 1)) + 1 := by omega
  rw [List.set_append_right _ _ (by simp), this]
  simp only [List.length_replicate, Nat.sub_self, List.replicate_succ, List.set_cons_zero]
  rw [← List.replicate_succ, List.replicate_succ']
  simp
theorem freeO_last {K i : Nat} (h : i < K) : (freeO K i).getLast? = some (i : Int) ∧ (freeO K i).dropLast = freeO K (i + 1) := by
  unfold freeO
  rw [drop_at (upI_at h), List.reverse_cons]
  simp
theorem order_loop1 (N : Nat) (hN : Fu + 4 ≤ N) (K : Nat) (h0 : 1 ≤ K) (h1 : K ≤ 20) (gives : List Int) : ∀ (k i m : Nat), i + k = K → k < m →
    l_law02_PoolOrder_1 N m (gives, (K : Int), 0, (i : Int), gensO K i, freeO K i, allO i) = some (.inl (gives, (K : Int), gensO K K, freeO K K, allO K))
  | k, i, 0, e1, e2 => by omega
  | 0, i, m + 1, e1, e2 => by
    rw [l_law02_PoolOrder_1_s, cd, if_neg (by omega)]
    have : i = K := by omega
    subst this; rfl
  | k + 1, i, m + 1, e1, e2 => by
    have hr := order_right K h0 h1 (gensO K i) (freeO K i) (gensO_len (by omega)) gensO_mem (freeO_right K i)
    obtain ⟨f1, f2⟩ := freeO_last (K := K) (i := i) (by omega)
    have hg := gensO_get (K := K) (i := i) (by omega)
    obtain ⟨e3, -⟩ := takeP_ok hr f1 (by rw [Int.toNat_natCast, hg]; omega)
    rw [Int.toNat_natCast, hg, f2, show (0 : Int) + 1 = 1 from rfl, gensO_set (by omega)] at e3
    obtain ⟨l1, l2, -⟩ := right_len hr
    rw [l_law02_PoolOrder_1_s, cd, if_pos (by omega), take_eq N (by omega) _ _ (by omega) (by omega), ob, e3]
    simp only [decide_true, Bool.not_true, cond_false]
    rw [app_of (by omega) (by simp [allO, upI]; omega), ob, w64n (by omega)]
    have e4 : allO i ++ [((i : Int), 1)] = allO (i + 1) := by simp [allO, upI, List.range_succ]
    rw [e4]
    exact order_loop1 N hN K h0 h1 gives k (i + 1) m (by omega) (by omega)
theorem gensO_one {K c : Nat} (h : c < K) : (gensO K K).getD c 0 = 1 := by
  apply getD_at
  unfold gensO
  simp [h]
theorem order_loop2 (N : Nat) (hN : Fu + 4 ≤ N) (K : Nat) (h0 : 1 ≤ K) (h1 : K ≤ 20) (gives : List Int) (ha : ∀ a ∈ gives, 0 ≤ a ∧ a ≤ 255) (hl : gives.length ≤ 60) : ∀ (k i m : Nat) (order : List Int), i + k = gives.length → k < m → FreeR K order →
    ∃ order', FreeR K order' ∧ l_law02_PoolOrder_2 N m (gives, (K : Int), (i : Int), gensO K K, order, allO K, order) = some (.inl ((K : Int), gensO K K, order', order'))
  | k, i, 0, order, e1, e2, hf => by omega
  | 0, i, m + 1, order, e1, e2, hf => by
    rw [l_law02_PoolOrder_2_s, cd, if_neg (by omega)]
    exact ⟨order, hf, rfl⟩
  | k + 1, i, m + 1, order, e1, e2, hf => by
    obtain ⟨a, hA⟩ := get_at (xs := gives) (i := i) (by omega)
    obtain ⟨a0, a1⟩ := ha a (List.mem_of_getElem? hA)
    obtain ⟨b, rfl⟩ : ∃ b : Nat, a = b := ⟨a.toNat, by omega⟩
    have hj : b % K < K := Nat.mod_lt _ (by omega)
    rw [l_law02_PoolOrder_2_s, cd, if_pos (by omega), nth_of hA, ob, w64 (by omega) (by omega), rem_of (by omega), ob, tmod_nat]
    generalize b % K = c at hj
    have hc : (allO K)[c]? = some ((c : Int), 1) := by simp [allO, upI, hj]
    have hr := order_right K h0 h1 (gensO K K) order (gensO_len (by omega)) gensO_mem hf
    obtain ⟨l1, l2, -⟩ := right_len hr
    have hfl := freeR_len hf
    rw [nth_of hc, ob, ob]
    simp only []
    rw [good_eq N (by omega) _ _ _ _ (by omega) (by omega), ob, give_eq N (by omega) _ _ _ _ (by omega) (by omega), ob, w64n (by omega)]
    by_cases hm : (c : Int) ∈ order
    · have hgd : goodB (gensO K K) order c 1 = false := by
        rw [Bool.eq_false_iff]; intro h; exact (goodB_iff.1 h).2.2.2.2 hm
      have e3 : giveP (gensO K K) order c 1 = (3, gensO K K, order) := by
        unfold giveP; rw [if_pos hr, hgd]; rfl
      rw [hgd, e3]
      exact order_loop2 N hN K h0 h1 gives ha hl k (i + 1) m order (by omega) (by omega) hf
    · have hgd : goodB (gensO K K) order c 1 = true := goodB_iff.2 ⟨hr, by omega, by rw [gensO_len (by omega)]; omega, by rw [Int.toNat_natCast]; exact gensO_one hj, hm⟩
      obtain ⟨e3, e4⟩ := giveP_ok hgd
      rw [hgd, e3]
      simp only [decide_true, BEq.rfl, Bool.not_true, cond_false, cond_true]
      rw [app_of (by omega) (by simp; omega), ob]
      refine order_loop2 N hN K h0 h1 gives ha hl k (i + 1) m _ (by omega) (by omega) ?_
      have := (rightB_iff.1 e4).2
      rwa [gensO_len (by omega)] at this
theorem order_loop3 (N : Nat) (hN : Fu + 4 ≤ N) (K : Nat) (h0 : 1 ≤ K) (h1 : K ≤ 20) (order : List Int) (hf : FreeR K order) : ∀ (k m : Nat) (gens : List Int), k ≤ order.length → k < m → gens.length = K → (∀ g ∈ gens, 0 ≤ g ∧ g ≤ 2) → (∀ c ∈ order.take k, gens.getD c.toNat 0 = 1) →
    ∃ gens', gens'.length = K ∧ (∀ g ∈ gens', 0 ≤ g ∧ g ≤ 2) ∧ l_law02_PoolOrder_3 N m ((K : Int), (k : Int) - 1, gens, order.take k, order) = some (.inl ((K : Int), gens', []))
  | k, 0, gens, e1, e2, gl, gr, g1 => by omega
  | 0, m + 1, gens, e1, e2, gl, gr, g1 => by
    rw [l_law02_PoolOrder_3_s, cd, if_neg (by omega)]
    exact ⟨gens, gl, gr, rfl⟩
  | k + 1, m + 1, gens, e1, e2, gl, gr, g1 => by
    obtain ⟨c, hc⟩ := get_at (xs := order) (i := k) (by omega)
    have ht := take_at hc
    have hr := order_right K h0 h1 gens (order.take (k + 1)) gl gr (freeR_take _ hf)
    have hlast : (order.take (k + 1)).getLast? = some c := by rw [ht]; simp
    have hg : gens.getD c.toNat 0 = 1 := g1 c (by rw [ht]; simp)
    obtain ⟨e3, c0, c1, c2, c3⟩ := takeP_ok hr hlast (by rw [hg]; omega)
    have hdl : (order.take (k + 1)).dropLast = order.take k := by rw [ht]; simp
    rw [hg, hdl, show (1 : Int) + 1 = 2 from rfl] at e3
    rw [hdl] at c2
    obtain ⟨l1, l2, -⟩ := right_len hr
    have hfl := freeR_len hf
    have e5 : (((k + 1 : Nat) : Int) - 1) = (k : Int) := by omega
    rw [e5, l_law02_PoolOrder_3_s, cd, if_pos (by omega), take_eq N (by omega) _ _ (by omega) (by omega), ob, e3]
    simp only [decide_true, Bool.not_true, cond_false]
    rw [nth_of hc, ob, ob]
    simp only [decide_true, Bool.not_true, cond_false]
    rw [w64 (by omega) (by omega)]
    refine order_loop3 N hN K h0 h1 order hf k m _ (by omega) (by omega) (by rw [List.length_set]; exact gl) ?_ ?_
    · intro g hg'
      rcases mem_set hg' with rfl | hg'
      · omega
      · exact gr g hg'
    · intro d hd
      have hne : d ≠ c := fun e => c2 (by rw [← e]; exact hd)
      have d0 := (hf.1 d (List.mem_of_mem_take hd)).1
      rw [getD_set_ne (by omega)]
      exact g1 d (by rw [ht]; exact List.mem_append.2 (.inl hd))
theorem poolOrder (N : Nat) (hN : Fu + 6 ≤ N) (n : Int) (gives : List Int) (n0 : 0 ≤ n) (n1 : n ≤ 255) (ha : ∀ a ∈ gives, 0 ≤ a ∧ a ≤ 255) : m_law02_PoolOrder N (n, gives) = some true := by
  obtain ⟨N, rfl⟩ : ∃ n, N = n + 1 := ⟨N - 1, by omega⟩
  obtain ⟨K, hK, k0, k1⟩ := K_of n0 n1
  rw [m_law02_PoolOrder_eq, pool_alive N (by omega), ob]
  simp only [Bool.not_true, cond_false]
  rw [cd]
  by_cases hl : 60 < gives.length
  · rw [if_pos (by omega)]
  rw [if_neg (by omega), hK, make_eq N (by omega), ob, makeP_ok k0 k1]
  simp only []
  have h1 := order_loop1 N (by omega) K k0 k1 gives K 0 N (by omega) (by have := Fu_eq; omega)
  rw [show (((0 : Nat) : Int) = 0) from rfl, show gensO K 0 = List.replicate K 0 by simp [gensO], show freeO K 0 = (upI K).reverse by simp [freeO], show allO 0 = [] from rfl] at h1
  have fk : freeO K K = [] := by simp [freeO, upI]
  rw [h1, ob]
  simp only []
  rw [fk]
  obtain ⟨order, hf, h2⟩ := order_loop2 N (by omega) K k0 k1 gives ha (by omega) gives.length 0 N [] (by omega) (by have := Fu_eq; omega) (by simp [FreeR])
  rw [show (((0 : Nat) : Int) = 0) from rfl] at h2
  have hfl := freeR_len hf
  rw [h2, ob]
  simp only []
  obtain ⟨gens, gl, gr, h3⟩ := order_loop3 N (by omega) K k0 k1 order hf order.length N (gensO K K) (by omega) (by have := Fu_eq; omega) (gensO_len (by omega)) gensO_mem (fun c hc => by
    have := hf.1 c (List.mem_of_mem_take hc)
    exact gensO_one (by omega))
  rw [List.take_length] at h3
  rw [w64 (by omega) (by omega), h3, ob]
  simp only []
  have hr := order_right K k0 k1 gens [] gl gr (by simp [FreeR])
  have e9 : takeP gens [] = (2, gens, [], 0, 0) := by unfold takeP; rw [if_pos hr]; rfl
  rw [take_eq N (by omega) _ _ (by omega) (by simp), ob, e9]
  simp only [decide_true, cond_true]
  have h4 := taken_len hr
  rw [taken_eq N (by omega) _ _ (by omega) (by simp), ob]
  simp at h4
  simp; omega
end Go.Proofs.Ytiejnblpmfgpbaa
