/- StoreAlone: the seat's texts as one (6 of 6; printed by wip/prune.py). -/
import Derived.Test.YtdahghkmejnlgaaZStoreAlone5
section
set_option linter.unusedVariables false
set_option linter.unusedSimpArgs false
namespace Go.Proofs.Ytdahghkmejnlgaa
open Go Go.RowKit
theorem fullN_iff {g f : List Int} {x : Nd} : fullN g f x = true ↔ (0 ≤ x.1 ∧ 1 ≤ x.2.1 ∧ x.2.1 ≤ 8 ∧ (x.2.2.length : Int) = x.2.1) ∧ GoodL g f x.2.2 := by
  simp only [fullN, Bool.and_eq_true, decide_eq_true_eq, List.all_eq_true, GoodL]
theorem emptyN_iff {x : Nd} : emptyN x = true ↔ x = (0, (0, [])) := by
  obtain ⟨a, b, c⟩ := x
  simp [emptyN, Bool.and_eq_true]
/-- every cell is aS it may be -/
def CellsR (g f : List Int) (ns : List Nd) : Prop := ∀ (c : Nat) x, ns[c]? = some x → ((c : Int) ∈ f → x = (0, (0, []))) ∧ ((c : Int) ∉ f → fullN g f x = true)
theorem rightS_cells {g f : List Int} {ns : List Nd} : rightS g f ns = true ↔ rightB g f = true ∧ ns.length = g.length ∧ CellsR g f ns := by
  rw [rightS_iff]
  refine and_congr_right fun _ => and_congr_right fun _ => ⟨fun h c x hx => ?_, fun h c x hx => ?_⟩
  · have := h c x hx
    unfold cellOk at this
    by_cases hc : (c : Int) ∈ f
    · rw [if_pos hc, emptyN_iff] at this; exact ⟨fun _ => this, fun h => absurd hc h⟩
    · rw [if_neg hc] at this; exact ⟨fun h => absurd h hc, fun _ => this⟩
  · unfold cellOk
    by_cases hc : (c : Int) ∈ f
    · rw [if_pos hc, emptyN_iff]; exact (h c x hx).1 hc
    · rw [if_neg hc]; exact (h c x hx).2 hc
theorem wrK_ne {l : List Hd} {t t2 : List Int} {t3 : List (List Int)} {ns : List Nd} {c : Nat} : ∀ (k : Nat), (∀ i, i < k → (l.getD i (0, 0)).1.toNat ≠ c) → (wrK l t t2 t3 ns k)[c]? = ns[c]?
  | 0, _ => rfl
  | k + 1, h => by
    rw [wrK, List.getElem?_set_ne (h k (by omega)), wrK_ne k fun i hi => h i (by omega)]
theorem wrK_at {l : List Hd} {t t2 : List Int} {t3 : List (List Int)} {ns : List Nd} {i : Nat} (hlt : (l.getD i (0, 0)).1.toNat < ns.length) : ∀ (k : Nat), i < k → (∀ j, i < j → j < k → (l.getD j (0, 0)).1.toNat ≠ (l.getD i (0, 0)).1.toNat) → (wrK l t t2 t3 ns k)[(l.getD i (0, 0)).1.toNat]? = some (nodeK l t t2 t3 i)
  | 0, h, _ => by omega
  | k + 1, h, hne => by
    rw [wrK]
    by_cases hk : i = k
    · subst hk
      rw [List.getElem?_set_self (by rw [wrK_len]; exact hlt)]
    · rw [List.getElem?_set_ne (hne k (by omega) (by omega)), wrK_at hlt k (by omega) fun j h1 h2 => hne j h1 (by omega)]
/-- what Put comes to -/
structure PutOk (g f : List Int) (ns : List Nd) (t t2 : List Int) (t3 : List (List Int)) (g' f' : List Int) (ns' : List Nd) (l : List Hd) : Prop where
  right : rightS g' f' ns' = true
  holds : Holds g' f' ns' t t2 t3 l
  free : f = f' ++ (l.map (·.1)).reverse
  gens : g'.length = g.length
  good : ∀ h : Hd, goodB g f h.1 h.2 = true → goodB g' f' h.1 h.2 = true ∧ nd ns' h = nd ns h ∧ ∀ q ∈ l, q.1 ≠ h.1
  same : ∀ (c : Nat), (c : Int) ∉ l.map (·.1) → g'.getD c 0 = g.getD c 0 ∧ ns'[c]? = ns[c]?
  one : ∀ h ∈ l, h.2 = g.getD h.1.toNat 0 + 1 ∧ g'.getD h.1.toNat 0 = h.2
theorem put_ok {g f : List Int} {ns : List Nd} {t t2 : List Int} {t3 : List (List Int)} (hr : rightS g f ns = true) (ht : TowerR t t2 t3) (h0 : (takeN t.length g f).1 = 0) :
    PutOk g f ns t t2 t3 (takeN t.length g f).2.1 (takeN t.length g f).2.2.1 (wrK (takeN t.length g f).2.2.2 t t2 t3 ns t.length) (takeN t.length g f).2.2.2 := by
  obtain ⟨hb, hlen, hcells⟩ := rightS_cells.1 hr
  have ok := takeN_ok t.length hb h0
  obtain ⟨e2, hrows, h1000, hne, hnd⟩ := tower_rows ht
  generalize (takeN t.length g f) = r at *
  obtain ⟨rz, g', f', l⟩ := r
  obtain ⟨k1, k2, k3, k4, k5, k6⟩ := ok
  simp only at k1 k2 k3 k4 k5 k6 ⊢
  have hfn := (rightB_iff.1 hb).2.2
  rw [k2, List.nodup_append] at hfn
  obtain ⟨hn1, hn2, hn3⟩ := hfn
  have hcn : (l.map (·.1)).Nodup := (List.reverse_perm _).nodup_iff.1 hn2
  have hln : l.Nodup := (List.pairwise_map.1 hcn).imp fun h e => h (by rw [e])
  have hmem : ∀ c : Int, c ∈ f ↔ c ∈ f' ∨ c ∈ l.map (·.1) := fun c => by rw [k2]; simp only [List.mem_append, List.mem_reverse]
  have hdis : ∀ c : Int, c ∈ l.map (·.1) → c ∉ f' := fun c hc hf => hn3 c hf c (by simpa using hc) rfl
  have hgd : ∀ (i : Nat) h, l[i]? = some h → l.getD i (0, 0) = h := fun i h hh => by simp [List.getD, hh]
  have hgood : GoodL g' f' l := fun h hh => goodB_iff.2 ⟨k6, (k5 h hh).1, by have := (k5 h hh).2.1; omega, (k5 h hh).2.2.1, hdis _ (List.mem_map_of_mem hh)⟩
  have hold : ∀ h : Hd, goodB g f h.1 h.2 = true → goodB g' f' h.1 h.2 = true ∧ h.1 ∉ l.map (·.1) := fun h hh => by
    obtain ⟨_, c0, c1, c2, c3⟩ := goodB_iff.1 hh
    rw [hmem] at c3
    have hct : ((h.1.toNat : Nat) : Int) = h.1 := by omega
    exact ⟨goodB_iff.2 ⟨k6, c0, by omega, by rw [k4 _ (by rw [hct]; exact fun q => c3 (.inr q))]; exact c2, fun q => c3 (.inl q)⟩, fun q => c3 (.inr q)⟩
  have hinj : ∀ (i j : Nat), i < l.length → j < l.length → (l.getD i (0, 0)).1.toNat = (l.getD j (0, 0)).1.toNat → i = j := fun i j hi hj e => by
    obtain ⟨x, hx⟩ := get_at hi
    obtain ⟨y, hy⟩ := get_at hj
    rw [hgd i x hx, hgd j y hy] at e
    have h1 := (k5 x (List.mem_of_getElem? hx)).1
    have h2 := (k5 y (List.mem_of_getElem? hy)).1
    have e3 : x.1 = y.1 := by omega
    refine (List.getElem?_inj (by simpa using hi) hcn).1 ?_
    rw [List.getElem?_map, List.getElem?_map, hx, hy, Option.map_some, Option.map_some, e3]
  have hat : ∀ (i : Nat) h, l[i]? = some h → (wrK l t t2 t3 ns t.length)[h.1.toNat]? = some (nodeK l t t2 t3 i) := fun i h hh => by
    have hi : i < l.length := (List.getElem?_eq_some_iff.1 hh).1
    have hk := k5 h (List.mem_of_getElem? hh)
    have := wrK_at (l := l) (t := t) (t2 := t2) (t3 := t3) (ns := ns) (i := i) (by rw [hgd i h hh]; omega) t.length (by omega) fun j h1 h2 e => by
      have := hinj j i (by omega) hi e; omega
    rwa [hgd i h hh] at this
  have hnt : ∀ c : Nat, (c : Int) ∉ l.map (·.1) → (wrK l t t2 t3 ns t.length)[c]? = ns[c]? := fun c hc => wrK_ne t.length fun i hi e => by
    obtain ⟨x, hx⟩ := get_at (xs := l) (i := i) (by omega)
    rw [hgd i x hx] at e
    have h1 := (k5 x (List.mem_of_getElem? hx)).1
    refine hc ?_
    rw [← e, show ((x.1.toNat : Nat) : Int) = x.1 by omega]
    exact List.mem_map_of_mem (List.mem_of_getElem? hx)
  have hfull : ∀ (i : Nat), i < t.length → fullN g' f' (nodeK l t t2 t3 i) = true := fun i hi => by
    obtain ⟨x, hx⟩ := get_at hi
    have hi2 : i < t2.length := by omega
    have hT := ht.1.2.2.1.2.1 x (List.mem_of_getElem? hx)
    have hH := high_at ht.1.2.2.2 hi2
    rw [fullN_iff, nodeK, tower_get ht hi]
    refine ⟨⟨by simp only [List.getD, hx]; exact hT.1, hH.1, hH.2, by show (((linksOf t2 i).map (toH l)).length : Int) = hAt t2 i; rw [List.length_map, linksOf, List.length_map, List.length_range]; omega⟩, fun q hq => ?_⟩
    simp only [List.mem_map] at hq
    obtain ⟨j, hj, rfl⟩ := hq
    simp only [linksOf, List.mem_map] at hj
    obtain ⟨y, _, rfl⟩ := hj
    obtain ⟨l0, l1⟩ := link_range (hs := t2) (i := i) (h := y) (by omega)
    have hql : (linkOf t2 i y).toNat < l.length := by omega
    rw [toH, List.getD_eq_getElem?_getD, List.getElem?_eq_getElem hql]
    exact hgood _ (List.getElem_mem _)
  refine ⟨rightS_cells.2 ⟨k6, by rw [wrK_len, hlen, k3], fun c x hx => ?_⟩, ⟨ht, k1, hgood, hln, fun i h hh => ?_⟩, k2, k3, fun h hh => ?_, fun c hc => ⟨k4 c hc, hnt c hc⟩, fun h hh => ⟨(k5 h hh).2.2.2, (k5 h hh).2.2.1⟩⟩
  · by_cases hc : (c : Int) ∈ l.map (·.1)
    · obtain ⟨h, hh, e⟩ := List.mem_map.1 hc
      obtain ⟨i, hi⟩ := List.getElem?_of_mem hh
      have hil : i < l.length := (List.getElem?_eq_some_iff.1 hi).1
      have := hat i h hi
      rw [show h.1.toNat = c by omega, hx] at this
      cases this
      exact ⟨fun q => absurd q (hdis _ hc), fun _ => hfull i (by omega)⟩
    · rw [hnt c hc] at hx
      obtain ⟨a, b⟩ := hcells c x hx
      refine ⟨fun q => a ((hmem _).2 (.inl q)), fun q => ?_⟩
      have := b (fun z => ((hmem _).1 z).elim q hc)
      rw [fullN_iff] at this ⊢
      exact ⟨this.1, fun y hy => (hold y (this.2 y hy)).1⟩
  · rw [nd, List.getD_eq_getElem?_getD, hat i h hh]; rfl
  · obtain ⟨a, b⟩ := hold h hh
    have hc := (goodB_iff.1 hh).2.1
    refine ⟨a, ?_, fun q hq e => b (by rw [← e]; exact List.mem_map_of_mem hq)⟩
    rw [nd, nd, List.getD_eq_getElem?_getD, List.getD_eq_getElem?_getD, hnt _ (by rw [show ((h.1.toNat : Nat) : Int) = h.1 by omega]; exact b)]
def clr : List Hd → List Nd → List Nd
  | [], ns => ns
  | h :: l, ns => clr l (ns.set h.1.toNat (0, (0, [])))
theorem clr_len : ∀ (l : List Hd) (ns : List Nd), (clr l ns).length = ns.length
  | [], ns => rfl
  | h :: l, ns => by rw [clr, clr_len l, List.length_set]
theorem clr_ne : ∀ (l : List Hd) (ns : List Nd) (c : Nat), (∀ h ∈ l, h.1.toNat ≠ c) → (clr l ns)[c]? = ns[c]?
  | [], ns, c, _ => rfl
  | h :: l, ns, c, hc => by rw [clr, clr_ne l _ c fun q hq => hc q (by simp [hq]), List.getElem?_set_ne (hc h (by simp))]
theorem clr_at : ∀ (l : List Hd) (ns : List Nd) (c : Nat) x, (∃ h ∈ l, h.1.toNat = c) → (clr l ns)[c]? = some x → x = (0, (0, []))
  | [], ns, c, x, h, _ => by obtain ⟨_, h, _⟩ := h; cases h
  | h :: l, ns, c, x, hc, hx => by
    rw [clr] at hx
    by_cases hl : ∃ q ∈ l, q.1.toNat = c
    · exact clr_at l _ c x hl hx
    · rw [clr_ne l _ c fun q hq e => hl ⟨q, hq, e⟩] at hx
      obtain ⟨q, hq, e⟩ := hc
      rcases List.mem_cons.1 hq with rfl | hq
      · subst e
        rw [List.getElem?_set] at hx
        simp only [if_true] at hx
        split at hx
        · exact (Option.some.inj hx).symm
        · cases hx
      · exact absurd ⟨q, hq, e⟩ hl
theorem good_app {g f : List Int} {h q : Hd} (hh : goodB g f h.1 h.2 = true) (hr : rightB g (f ++ [q.1]) = true) (hne : h.1 ≠ q.1) : goodB g (f ++ [q.1]) h.1 h.2 = true := by
  obtain ⟨_, c0, c1, c2, c3⟩ := goodB_iff.1 hh
  refine goodB_iff.2 ⟨hr, c0, c1, c2, fun hm => ?_⟩
  rcases List.mem_append.1 hm with hm | hm
  · exact c3 hm
  · simp only [List.mem_singleton] at hm; exact hne hm
theorem giveL_ok : ∀ (l : List Hd) {g f : List Int} (ns : List Nd), rightB g f = true → GoodL g f l → l.Nodup → giveL l g f ns = (g, f ++ l.map (·.1), clr l ns) ∧ rightB g (f ++ l.map (·.1)) = true
  | [], g, f, ns, hr, _, _ => by simp [giveL, clr, hr]
  | h :: l, g, f, ns, hr, hg, hn => by
    rw [List.nodup_cons] at hn
    have hh := hg h (by simp)
    obtain ⟨e, hr2⟩ := giveP_ok hh
    have hg2 : GoodL g (f ++ [h.1]) l := fun q hq => good_app (hg q (by simp [hq])) hr2 fun e => hn.1 (good_inj (hg q (by simp [hq])) hh e ▸ hq)
    obtain ⟨e2, hr3⟩ := giveL_ok l (ns.set h.1.toNat (0, (0, []))) hr2 hg2 hn.2
    rw [giveL, e]
    simp only [List.map_cons, clr]
    rw [e2]
    rw [List.append_assoc, List.singleton_append] at hr3
    exact ⟨by rw [List.append_assoc, List.singleton_append], hr3⟩
theorem leadsFrom_iff {l : List Hd} : ∀ {c : Nat} {ns : List Nd}, leadsFrom l c ns = false ↔ ∀ (i : Nat) x, ns[i]? = some x → (∀ h ∈ l, h.1 ≠ ((c + i : Nat) : Int)) → ∀ q ∈ x.2.2, q ∉ l
  | c, [] => by simp [leadsFrom]
  | c, y :: ns => by
    rw [leadsFrom, Bool.or_eq_false_iff, leadsFrom_iff (c := c + 1) (ns := ns)]
    constructor
    · rintro ⟨h1, h2⟩ i x hx hc q hq hql
      cases i with
      | zero =>
        simp only [List.getElem?_cons_zero, Option.some.injEq] at hx
        subst hx
        have ha : (l.any fun h => decide (h.1 = (c : Int))) = false := by
          rw [List.any_eq_false]; intro h hh; simpa using hc h hh
        rw [ha, Bool.not_false, Bool.true_and, List.any_eq_false] at h1
        exact h1 q hq (by simpa using hql)
      | succ i => exact h2 i x (by simpa using hx) (fun h hh => by have := hc h hh; rwa [show c + (i + 1) = c + 1 + i by omega] at this) q hq hql
    · intro h
      refine ⟨?_, fun i x hx hc q hq => h (i + 1) x (by simpa using hx) (fun z hz => by rw [show c + (i + 1) = c + 1 + i by omega]; exact hc z hz) q hq⟩
      by_cases ha : (l.any fun h => decide (h.1 = (c : Int))) = true
      · rw [ha]; rfl
      · have ha' : (l.any fun h => decide (h.1 = (c : Int))) = false := (Bool.not_eq_true _).mp ha
        rw [ha', Bool.not_false, Bool.true_and, List.any_eq_false]
        rw [List.any_eq_false] at ha'
        intro q hq
        have := h 0 y rfl (fun z hz => by simpa using ha' z hz) q hq
        simpa using this
/-- what Give comes to: at cells that nobody else leads to -/
structure GiveOk (g f : List Int) (ns : List Nd) (L : List Hd) (f' : List Int) (ns' : List Nd) : Prop where
  right : rightS g f' ns' = true
  free : f' = f ++ L.map (·.1)
  good : ∀ h : Hd, goodB g f h.1 h.2 = true → h ∉ L → goodB g f' h.1 h.2 = true ∧ nd ns' h = nd ns h
  stale : ∀ h ∈ L, goodB g f' h.1 h.2 = false
  same : ∀ (c : Nat), (∀ h ∈ L, h.1 ≠ (c : Int)) → ns'[c]? = ns[c]?
theorem give_ok {g f : List Int} {ns : List Nd} {L : List Hd} (hr : rightS g f ns = true) (hg : GoodL g f L) (hn : L.Nodup) (hlead : leadsFrom L 0 ns = false) : GiveOk g f ns L (f ++ L.map (·.1)) (clr L ns) := by
  obtain ⟨hb, hlen, hcells⟩ := rightS_cells.1 hr
  obtain ⟨_, hr2⟩ := giveL_ok L ns hb hg hn
  rw [leadsFrom_iff] at hlead
  have hcell : ∀ h ∈ L, 0 ≤ h.1 := fun h hh => (goodB_iff.1 (hg h hh)).2.1
  have hsame : ∀ (c : Nat), (∀ h ∈ L, h.1 ≠ (c : Int)) → (clr L ns)[c]? = ns[c]? := fun c hc => clr_ne L ns c fun h hh e => hc h hh (by have := hcell h hh; omega)
  have hgood : ∀ h : Hd, goodB g f h.1 h.2 = true → h ∉ L → goodB g (f ++ L.map (·.1)) h.1 h.2 = true ∧ ∀ q ∈ L, q.1 ≠ h.1 := fun h hh hnl => by
    obtain ⟨_, c0, c1, c2, c3⟩ := goodB_iff.1 hh
    have hd : ∀ q ∈ L, q.1 ≠ h.1 := fun q hq e => hnl (good_inj (hg q hq) hh e ▸ hq)
    refine ⟨goodB_iff.2 ⟨hr2, c0, c1, c2, fun hm => ?_⟩, hd⟩
    rcases List.mem_append.1 hm with hm | hm
    · exact c3 hm
    · obtain ⟨q, hq, e⟩ := List.mem_map.1 hm; exact hd q hq e
  refine ⟨rightS_cells.2 ⟨hr2, by rw [clr_len, hlen], fun c x hx => ?_⟩, rfl, fun h hh hnl => ?_, fun h hh => ?_, hsame⟩
  · by_cases hc : ∃ h ∈ L, h.1 = (c : Int)
    · obtain ⟨h, hh, e⟩ := hc
      refine ⟨fun _ => clr_at L ns c x ⟨h, hh, by omega⟩ hx, fun q => absurd (List.mem_append.2 (.inr (List.mem_map.2 ⟨h, hh, e⟩))) q⟩
    · have hc' : ∀ h ∈ L, h.1 ≠ (c : Int) := fun h hh e => hc ⟨h, hh, e⟩
      rw [hsame c hc'] at hx
      obtain ⟨a, b⟩ := hcells c x hx
      refine ⟨fun q => ?_, fun q => ?_⟩
      · rcases List.mem_append.1 q with q | q
        · exact a q
        · obtain ⟨h, hh, e⟩ := List.mem_map.1 q; exact absurd e (hc' h hh)
      · have := b fun z => q (List.mem_append.2 (.inl z))
        rw [fullN_iff] at this ⊢
        exact ⟨this.1, fun y hy => (hgood y (this.2 y hy) (hlead c x hx (fun h hh => by simpa using hc' h hh) y hy)).1⟩
  · obtain ⟨a, b⟩ := hgood h hh hnl
    have hc := (goodB_iff.1 hh).2.1
    refine ⟨a, ?_⟩
    rw [nd, nd, List.getD_eq_getElem?_getD, List.getD_eq_getElem?_getD, hsame _ (fun q hq e => b q hq (by omega))]
  · cases e : goodB g (f ++ L.map (·.1)) h.1 h.2 with
    | false => rfl
    | true => exact absurd (List.mem_append.2 (.inr (List.mem_map.2 ⟨h, hh, rfl⟩))) (goodB_iff.1 e).2.2.2.2
theorem leads_perm {l l' : List Hd} (h : ∀ q, q ∈ l ↔ q ∈ l') {ns : List Nd} : leadsFrom l 0 ns = false → leadsFrom l' 0 ns = false := by
  rw [leadsFrom_iff, leadsFrom_iff]
  exact fun hh i x hx hc q hq hql => hh i x hx (fun z hz => hc z ((h z).1 hz)) q hq ((h q).2 hql)
/-- GIVEN BACK, from any place of a tower that a store holds -/
theorem hold_give {g f : List Int} {ns : List Nd} {t t2 : List Int} {t3 : List (List Int)} {l : List Hd} (hr : rightS g f ns = true) (H : Holds g f ns t t2 t3 l) {i : Nat} {h : Hd} (hh : l[i]? = some h) (hlead : leadsFrom l 0 ns = false) :
    ∃ f' ns', sgiveS g f ns h = (0, g, f', ns') ∧ GiveOk g f ns (rotL i l).reverse f' ns' := by
  have hrd := hold_read hr H hh
  have hp : ∀ q, q ∈ l ↔ q ∈ rotL i l := fun q => ((rotL_perm i l).mem_iff).symm
  have hp2 : ∀ q, q ∈ l ↔ q ∈ (rotL i l).reverse := fun q => by rw [List.mem_reverse]; exact hp q
  have hg : GoodL g f (rotL i l).reverse := fun q hq => H.good q ((hp2 q).2 hq)
  have hn : (rotL i l).reverse.Nodup := (List.reverse_perm _).nodup_iff.2 ((rotL_perm i l).nodup_iff.2 H.nodup)
  obtain ⟨e, _⟩ := giveL_ok _ ns (rightS_iff.1 hr).1 hg hn
  refine ⟨_, _, ?_, give_ok hr hg hn (leads_perm hp2 hlead)⟩
  unfold sgiveS
  rw [hrd]
  simp only
  rw [if_neg (by simp), if_neg (by rw [leads_perm hp hlead]; simp), e]
/-- what others hold stays -/
theorem Holds.put {g f : List Int} {ns : List Nd} {t t2 : List Int} {t3 : List (List Int)} {g' f' : List Int} {ns' : List Nd} {l : List Hd} (P : PutOk g f ns t t2 t3 g' f' ns' l) {u u2 : List Int} {u3 : List (List Int)} {m : List Hd} (H : Holds g f ns u u2 u3 m) : Holds g' f' ns' u u2 u3 m ∧ ∀ h ∈ m, h ∉ l :=
  ⟨⟨H.tow, H.len, fun h hh => (P.good h (H.good h hh)).1, H.nodup, fun i h hh => by rw [(P.good h (H.good h (List.mem_of_getElem? hh))).2.1]; exact H.node i h hh⟩, fun h hh hl => (P.good h (H.good h hh)).2.2 h hl rfl⟩
theorem Holds.give {g f : List Int} {ns : List Nd} {L : List Hd} {f' : List Int} {ns' : List Nd} (G : GiveOk g f ns L f' ns') {u u2 : List Int} {u3 : List (List Int)} {m : List Hd} (H : Holds g f ns u u2 u3 m) (hd : ∀ h ∈ m, h ∉ L) : Holds g f' ns' u u2 u3 m :=
  ⟨H.tow, H.len, fun h hh => (G.good h (H.good h hh) (hd h hh)).1, H.nodup, fun i h hh => by
    have hm := List.mem_of_getElem? hh
    rw [(G.good h (H.good h hm) (hd h hm)).2]; exact H.node i h hh⟩
end Go.Proofs.Ytdahghkmejnlgaa
end
section
set_option linter.unusedVariables false
set_option maxRecDepth 100000
namespace Go.Proofs.Ytdahghkmejnlgaa
open Go Go.RowKit
noncomputable def ct_ref02_Taken (N : Nat) : List Ctr := [c_ref02_Right N]
def i_ref02_Taken_2 : PS := ⟨[(1, .k (.pt 900 0)), (3, .k (.ow 901)), (4, .h s1), (5, .h .b), (6, .h s1)], [(900, .box 24 [.h s2, .h s2]), (901, .arr 3 s1 true)], [s1, .b, s1, s2, s2, s2]⟩
def o_ref02_Taken_2 : List (Exit × PS) := [((.exit 2), ⟨[(1, .k (.pt 900 0)), (3, .k (.ow 901)), (4, .h s1), (5, .h .b)], [(900, .box 24 [.h s2, .h s2]), (901, .arr 3 s1 true)], [s1, .b, s2, s2, s2]⟩)]
def p_ref02_Taken_2 : Pl := .z
noncomputable def l_ref02_Taken_2 (N : Nat) : Nat → Int × Bool × Int × (List Int) × (List Int) × (List Int) → Option (Int × Bool × (List Int) × (List Int) × (List Int)) := loopF (exC T (ct_ref02_Taken N) N (codeAt [1, 1, 1, 0, 1, 0, 0, 1, 0, 0, 1, 0, 1, 0, 0] (bodyOf Try.f28))) 41 i_ref02_Taken_2 o_ref02_Taken_2 p_ref02_Taken_2
def i_ref02_Taken_1 : PS := ⟨[(1, .k (.pt 900 0)), (3, .k (.ow 901)), (4, .h s1)], [(900, .box 24 [.h s2, .h s2]), (901, .arr 3 s1 true)], [s1, s2, s2, s2]⟩
def o_ref02_Taken_1 : List (Exit × PS) := [((.exit 0), ⟨[(3, .k (.ow 900))], [(900, .arr 3 s1 true)], [s2]⟩)]
def p_ref02_Taken_1 : Pl := (.n .z (.n (.n (.n .z (.n (.n .z (.n (.loop i_ref02_Taken_2 o_ref02_Taken_2 p_ref02_Taken_2) .z)) .z)) .z) .z))
noncomputable def l_ref02_Taken_1 (N : Nat) : Nat → Int × (List Int) × (List Int) × (List Int) → Option ((List Int)) := loopF (exC T (ct_ref02_Taken N) N (codeAt [1, 1, 1, 0, 1, 0, 0] (bodyOf Try.f28))) 41 i_ref02_Taken_1 o_ref02_Taken_1 p_ref02_Taken_1
def p_ref02_Taken : Pl := (.n .z (.n .z (.n .z (.n (.n .z (.n (.loop i_ref02_Taken_1 o_ref02_Taken_1 p_ref02_Taken_1) .z)) .z))))
def r_ref02_Taken : PS := ⟨[(2, .k (.ow 900))], [(900, .arr 3 s1 true)], [s2]⟩
noncomputable def m_ref02_Taken (N : Nat) : (List Int) × (List Int) → Option ((List Int)) := exF T ct_ref02_Taken N (bodyOf Try.f28) 41 p_ref02_Taken [.ag [.h s2, .h s2]] [] [s2, s2] r_ref02_Taken
noncomputable def c_ref02_Taken (N : Nat) : Ctr := ⟨28, [.ag [.h s2, .h s2]], [], [s2, s2], Tup r_ref02_Taken.c, m_ref02_Taken N, fun y _ k => k (resG T (mkPS 41 r_ref02_Taken y) Try.f28.results.toList) (keepH' [900] (mkPS 41 r_ref02_Taken y).h), true, true⟩
theorem l_ref02_Taken_2_s (N m : Nat) (i : Int) (free : Bool) (k : Int) (p : (List Int)) (p2 : (List Int)) (out : (List Int)) : l_ref02_Taken_2 N (m + 1) (i, free, k, p, p2, out) = cond (decide (k < (((List.length p2) : Nat) : Int)))
   (cond free
     ((l_ref02_Taken_2 N m (i, (true, ((IntKind.wrap .i64 (k + (1 : Int))), (p, (p2, out)))))))
     (obind (nthI p2 k) fun z1 =>
      (l_ref02_Taken_2 N m (i, ((decide (z1 = i)), ((IntKind.wrap .i64 (k + (1 : Int))), (p, (p2, out))))))))
   (some (i, (free, (p, (p2, out))))) := by kernel_rfl
theorem l_ref02_Taken_1_s (N m : Nat) (i : Int) (p : (List Int)) (p2 : (List Int)) (out : (List Int)) : l_ref02_Taken_1 N (m + 1) (i, p, p2, out) = cond (decide (i < (((List.length p) : Nat) : Int)))
   (obind (l_ref02_Taken_2 N N (i, (false, ((0 : Int), (p, (p2, out)))))) fun z1 =>
    cond (!z1.2.1)
     (obind (appI (8 : Nat) z1.2.2.2.2 [z1.1]) fun z2 =>
      (l_ref02_Taken_1 N m ((IntKind.wrap .i64 (z1.1 + (1 : Int))), (z1.2.2.1, (z1.2.2.2.1, z2)))))
     ((l_ref02_Taken_1 N m ((IntKind.wrap .i64 (z1.1 + (1 : Int))), (z1.2.2.1, (z1.2.2.2.1, z1.2.2.2.2))))))
   (some out) := by kernel_rfl
theorem m_ref02_Taken_eq (N : Nat) (p : (List Int)) (p2 : (List Int)) : m_ref02_Taken (N + 1) (p, p2) = obind (m_ref02_Right N (p, p2)) fun z1 =>
  cond (!z1)
   (some [])
   (obind (l_ref02_Taken_1 N N ((0 : Int), (p, (p2, [])))) fun z2 =>
    some z2) := by kernel_rfl
theorem c_ref02_Taken_ok (N : Nat) : (c_ref02_Taken N).ok Try.prog := exF_ok (T := T) (CT := ct_ref02_Taken) (N := N) (fun M => ⟨tOk, (ctAll_cons (c_ref02_Right_ok M) ctAll_nil), mixed, bwAll⟩) Try.func28 (by kernel_rfl) (by kernel_rfl) p_ref02_Taken _ _ [s2, s2] r_ref02_Taken true true [900] (by kernel_rfl) (fun y => by kernel_rfl) (fun h => by cases h) (fun y => by kernel_rfl) (m_ref02_Taken N) (fun x => by kernel_rfl)
noncomputable def ct_law30_StoreAlone (N : Nat) : List Ctr := [c_law30_alive N, c_store_Make N, c_ref14_Great N, c_store_Put N, c_ref14_Right N, c_store_Give N, c_store_Read N, c_ref14_Same N, c_store_Right N, c_ref02_Taken N]
def i_law30_StoreAlone_5 : PS := ⟨[(0, .h s0), (5, .k (.pt 900 0)), (9, .k (.ow 901)), (18, .h s1), (23, .h s1)], [(900, .box 27 [.h s2, .h s2, .h s12]), (901, .arr 29 s4 true)], [s0, s1, s1, s2, s2, s12, s5]⟩
def o_law30_StoreAlone_5 : List (Exit × PS) := [((.exit 4), ⟨[(0, .h s0), (5, .k (.pt 900 0)), (18, .h s1)], [(900, .box 27 [.h s2, .h s2, .h s12])], [s0, s1, s2, s2, s12]⟩), (.ret, ⟨[(4, .h .b)], [], [.b]⟩)]
def p_law30_StoreAlone_5 : Pl := .z
noncomputable def l_law30_StoreAlone_5 (N : Nat) : Nat → Int × Int × Int × (List Int) × (List Int) × (List (Int × (Int × (List (Int × Int))))) × (List (Int × Int)) → Option ((Int × Int × (List Int) × (List Int) × (List (Int × (Int × (List (Int × Int)))))) ⊕ (Bool)) := loopF (exC T (ct_law30_StoreAlone N) N (codeAt [1, 1, 1, 1, 1, 1, 1, 1, 1, 1, 0, 1, 0, 0] (bodyOf Try.f6))) 247 i_law30_StoreAlone_5 o_law30_StoreAlone_5 p_law30_StoreAlone_5
def i_law30_StoreAlone_4 : PS := ⟨[(0, .h s0), (5, .k (.pt 900 0)), (7, .k (.ow 901)), (8, .k (.ow 902)), (9, .k (.ow 903)), (18, .h s1), (19, .h s1)], [(900, .box 27 [.h s2, .h s2, .h s12]), (901, .arr 35 s11 true), (902, .arr 29 s4 true), (903, .arr 29 s4 true)], [s0, s1, s1, s2, s2, s12, s13, s5, s5]⟩
def o_law30_StoreAlone_4 : List (Exit × PS) := [((.exit 2), ⟨[(0, .h s0), (5, .k (.pt 900 0)), (9, .k (.ow 901)), (18, .h s1)], [(900, .box 27 [.h s2, .h s2, .h s12]), (901, .arr 29 s4 true)], [s0, s1, s2, s2, s12, s5]⟩), (.ret, ⟨[(4, .h .b)], [], [.b]⟩)]
def p_law30_StoreAlone_4 : Pl := .z
noncomputable def l_law30_StoreAlone_4 (N : Nat) : Nat → Int × Int × Int × (List Int) × (List Int) × (List (Int × (Int × (List (Int × Int))))) × (List ((List Int) × ((List Int) × (List (List Int))))) × (List (Int × Int)) × (List (Int × Int)) → Option ((Int × Int × (List Int) × (List Int) × (List (Int × (Int × (List (Int × Int))))) × (List (Int × Int))) ⊕ (Bool)) := loopF (exC T (ct_law30_StoreAlone N) N (codeAt [1, 1, 1, 1, 1, 1, 1, 1, 1, 0, 1, 0, 0] (bodyOf Try.f6))) 247 i_law30_StoreAlone_4 o_law30_StoreAlone_4 p_law30_StoreAlone_4
def i_law30_StoreAlone_3 : PS := ⟨[(0, .h s0), (1, .h s16), (5, .k (.pt 900 0)), (7, .k (.ow 903)), (8, .k (.ow 904)), (9, .k (.ow 905)), (10, .h s1), (14, .k (.pt 901 0)), (15, .k (.pt 902 0)), (16, .h s1), (17, .h .b)], [(900, .box 27 [.h s2, .h s2, .h s12]), (903, .arr 35 s11 true), (904, .arr 29 s4 true), (905, .arr 29 s4 true), (901, .box 27 [.h s2, .h s2, .h s12]), (902, .box 29 [.h s1, .h s1])], [s0, s16, s1, s1, .b, s2, s2, s12, s13, s5, s5, s2, s2, s12, s1, s1]⟩
def o_law30_StoreAlone_3 : List (Exit × PS) := [(.ret, ⟨[(4, .h .b)], [], [.b]⟩), (.normal, ⟨[(0, .h s0), (1, .h s16), (5, .k (.pt 900 0)), (7, .k (.ow 901)), (8, .k (.ow 902)), (9, .k (.ow 903)), (10, .h s1), (14, .k (.pt 904 0)), (15, .k (.pt 905 0)), (16, .h s1)], [(900, .box 27 [.h s2, .h s2, .h s12]), (901, .arr 35 s11 true), (902, .arr 29 s4 true), (903, .arr 29 s4 true), (904, .box 27 [.h s2, .h s2, .h s12]), (905, .box 29 [.h s1, .h s1])], [s0, s16, s1, s1, s2, s2, s12, s13, s5, s5, s2, s2, s12, s1, s1]⟩)]
def p_law30_StoreAlone_3 : Pl := .z
noncomputable def l_law30_StoreAlone_3 (N : Nat) : Nat → Int × (List (Bool × (Int × ((List Int) × ((List Int) × (List (List Int))))))) × Int × Int × Bool × (List Int) × (List Int) × (List (Int × (Int × (List (Int × Int))))) × (List ((List Int) × ((List Int) × (List (List Int))))) × (List (Int × Int)) × (List (Int × Int)) × (List Int) × (List Int) × (List (Int × (Int × (List (Int × Int))))) × Int × Int → Option ((Bool) ⊕ (Int × (List (Bool × (Int × ((List Int) × ((List Int) × (List (List Int))))))) × Int × Int × (List Int) × (List Int) × (List (Int × (Int × (List (Int × Int))))) × (List ((List Int) × ((List Int) × (List (List Int))))) × (List (Int × Int)) × (List (Int × Int)) × (List Int) × (List Int) × (List (Int × (Int × (List (Int × Int))))) × Int × Int)) := joinF (exC0 T (ct_law30_StoreAlone N) N (codeAt [1, 1, 1, 1, 1, 1, 1, 0, 1, 0, 0, 1, 0, 0, 1, 1, 1, 1, 0] (bodyOf Try.f6))) 247 i_law30_StoreAlone_3 o_law30_StoreAlone_3 p_law30_StoreAlone_3
def i_law30_StoreAlone_2 : PS := ⟨[(0, .h s0), (1, .h s16), (5, .k (.pt 900 0)), (7, .k (.ow 901)), (8, .k (.ow 902)), (9, .k (.ow 903)), (10, .h s1)], [(900, .box 27 [.h s2, .h s2, .h s12]), (901, .arr 35 s11 true), (902, .arr 29 s4 true), (903, .arr 29 s4 true)], [s0, s16, s1, s2, s2, s12, s13, s5, s5]⟩
def o_law30_StoreAlone_2 : List (Exit × PS) := [(.normal, ⟨[(0, .h s0), (1, .h s16), (5, .k (.pt 900 0)), (7, .k (.ow 901)), (8, .k (.ow 902)), (9, .k (.ow 903)), (10, .h s1)], [(900, .box 27 [.h s2, .h s2, .h s12]), (901, .arr 35 s11 true), (902, .arr 29 s4 true), (903, .arr 29 s4 true)], [s0, s16, s1, s2, s2, s12, s13, s5, s5]⟩), (.ret, ⟨[(4, .h .b)], [], [.b]⟩), ((.exit 1), ⟨[(0, .h s0), (1, .h s16), (5, .k (.pt 900 0)), (7, .k (.ow 901)), (8, .k (.ow 902)), (9, .k (.ow 903)), (10, .h s1)], [(900, .box 27 [.h s2, .h s2, .h s12]), (901, .arr 35 s11 true), (902, .arr 29 s4 true), (903, .arr 29 s4 true)], [s0, s16, s1, s2, s2, s12, s13, s5, s5]⟩)]
def p_law30_StoreAlone_2 : Pl := .z
noncomputable def l_law30_StoreAlone_2 (N : Nat) : Nat → Int × (List (Bool × (Int × ((List Int) × ((List Int) × (List (List Int))))))) × Int × (List Int) × (List Int) × (List (Int × (Int × (List (Int × Int))))) × (List ((List Int) × ((List Int) × (List (List Int))))) × (List (Int × Int)) × (List (Int × Int)) → Option ((Int × (List (Bool × (Int × ((List Int) × ((List Int) × (List (List Int))))))) × Int × (List Int) × (List Int) × (List (Int × (Int × (List (Int × Int))))) × (List ((List Int) × ((List Int) × (List (List Int))))) × (List (Int × Int)) × (List (Int × Int))) ⊕ ((Bool) ⊕ (Int × (List (Bool × (Int × ((List Int) × ((List Int) × (List (List Int))))))) × Int × (List Int) × (List Int) × (List (Int × (Int × (List (Int × Int))))) × (List ((List Int) × ((List Int) × (List (List Int))))) × (List (Int × Int)) × (List (Int × Int))))) := joinF (exC0 T (ct_law30_StoreAlone N) N (codeAt [1, 1, 1, 1, 1, 1, 1, 0, 1, 0, 0, 1, 0, 0, 1, 0] (bodyOf Try.f6))) 247 i_law30_StoreAlone_2 o_law30_StoreAlone_2 p_law30_StoreAlone_2
def i_law30_StoreAlone_1 : PS := ⟨[(0, .h s0), (1, .h s16), (5, .k (.pt 900 0)), (7, .k (.ow 901)), (8, .k (.ow 902)), (9, .k (.ow 903)), (10, .h s1)], [(900, .box 27 [.h s2, .h s2, .h s12]), (901, .arr 35 s11 true), (902, .arr 29 s4 true), (903, .arr 29 s4 true)], [s0, s16, s1, s2, s2, s12, s13, s5, s5]⟩
def o_law30_StoreAlone_1 : List (Exit × PS) := [((.exit 0), ⟨[(0, .h s0), (5, .k (.pt 900 0)), (7, .k (.ow 901)), (8, .k (.ow 902)), (9, .k (.ow 903))], [(900, .box 27 [.h s2, .h s2, .h s12]), (901, .arr 35 s11 true), (902, .arr 29 s4 true), (903, .arr 29 s4 true)], [s0, s2, s2, s12, s13, s5, s5]⟩), (.ret, ⟨[(4, .h .b)], [], [.b]⟩)]
def p_law30_StoreAlone_1 : Pl := (.n .z (.n (.n (.n .z (.n (.join i_law30_StoreAlone_2 o_law30_StoreAlone_2 p_law30_StoreAlone_2) (.n .z (.n .z (.n (.join i_law30_StoreAlone_3 o_law30_StoreAlone_3 p_law30_StoreAlone_3) .z))))) .z) .z))
noncomputable def l_law30_StoreAlone_1 (N : Nat) : Nat → Int × (List (Bool × (Int × ((List Int) × ((List Int) × (List (List Int))))))) × Int × (List Int) × (List Int) × (List (Int × (Int × (List (Int × Int))))) × (List ((List Int) × ((List Int) × (List (List Int))))) × (List (Int × Int)) × (List (Int × Int)) → Option ((Int × (List Int) × (List Int) × (List (Int × (Int × (List (Int × Int))))) × (List ((List Int) × ((List Int) × (List (List Int))))) × (List (Int × Int)) × (List (Int × Int))) ⊕ (Bool)) := loopF (exC T (ct_law30_StoreAlone N) N (codeAt [1, 1, 1, 1, 1, 1, 1, 0, 1, 0, 0] (bodyOf Try.f6))) 247 i_law30_StoreAlone_1 o_law30_StoreAlone_1 p_law30_StoreAlone_1
def p_law30_StoreAlone : Pl := (.n .z (.n .z (.n .z (.n .z (.n .z (.n .z (.n .z (.n (.n .z (.n (.loop i_law30_StoreAlone_1 o_law30_StoreAlone_1 p_law30_StoreAlone_1) .z)) (.n .z (.n (.n .z (.n (.loop i_law30_StoreAlone_4 o_law30_StoreAlone_4 p_law30_StoreAlone_4) .z)) (.n (.n .z (.n (.loop i_law30_StoreAlone_5 o_law30_StoreAlone_5 p_law30_StoreAlone_5) .z)) .z)))))))))))
def r_law30_StoreAlone : PS := ⟨[(4, .h .b)], [], [.b]⟩
noncomputable def m_law30_StoreAlone (N : Nat) : Int × (List (Bool × (Int × ((List Int) × ((List Int) × (List (List Int))))))) → Option (Bool) := exF T ct_law30_StoreAlone N (bodyOf Try.f6) 247 p_law30_StoreAlone [.h s0, .h s16] [] [s0, s16] r_law30_StoreAlone
noncomputable def c_law30_StoreAlone (N : Nat) : Ctr := ⟨6, [.h s0, .h s16], [], [s0, s16], Tup r_law30_StoreAlone.c, m_law30_StoreAlone N, fun y _ k => k (resG T (mkPS 247 r_law30_StoreAlone y) Try.f6.results.toList) (keepH' [] (mkPS 247 r_law30_StoreAlone y).h), false, true⟩
theorem l_law30_StoreAlone_5_s (N m : Nat) (n : Int) (cells : Int) (i : Int) (s : (List Int)) (s2 : (List Int)) (s3 : (List (Int × (Int × (List (Int × Int)))))) (stale : (List (Int × Int))) : l_law30_StoreAlone_5 N (m + 1) (n, cells, i, s, s2, s3, stale) = cond (decide (i < (((List.length stale) : Nat) : Int)))
   (obind (nthI stale i) fun z1 =>
    obind (nthI stale i) fun z2 =>
    obind (m_store_Read N (s, (s2, (s3, (z2.1, z2.2))))) fun z3 =>
    cond (!(decide (z3.1 = (3 : Int))))
     (some (.inr false))
     ((l_law30_StoreAlone_5 N m (n, (cells, ((IntKind.wrap .i64 (i + (1 : Int))), (s, (s2, (s3, stale)))))))))
   (some (.inl (n, (cells, (s, (s2, s3)))))) := by kernel_rfl
theorem l_law30_StoreAlone_4_s (N m : Nat) (n : Int) (cells : Int) (i : Int) (s : (List Int)) (s2 : (List Int)) (s3 : (List (Int × (Int × (List (Int × Int)))))) (towers : (List ((List Int) × ((List Int) × (List (List Int)))))) (handles : (List (Int × Int))) (stale : (List (Int × Int))) : l_law30_StoreAlone_4 N (m + 1) (n, cells, i, s, s2, s3, towers, handles, stale) = cond (decide (i < (((List.length handles) : Nat) : Int)))
   (obind (nthI handles i) fun z1 =>
    obind (nthI handles i) fun z2 =>
    obind (m_store_Read N (s, (s2, (s3, (z2.1, z2.2))))) fun z3 =>
    cond (!(decide (z3.1 = (0 : Int))))
     (some (.inr false))
     (obind (nthI towers i) fun z4 =>
      obind (nthI towers i) fun z5 =>
      obind (m_ref14_Same N (z3.2.1, (z3.2.2.1, (z3.2.2.2.1, (z5.1, (z5.2.1, z5.2.2)))))) fun z6 =>
      cond (!z6)
       (some (.inr false))
       ((l_law30_StoreAlone_4 N m (n, ((IntKind.wrap .i64 (cells + (((List.length z3.2.2.2.2) : Nat) : Int))), ((IntKind.wrap .i64 (i + (1 : Int))), (s, (s2, (s3, (towers, (handles, stale))))))))))))
   (some (.inl (n, (cells, (s, (s2, (s3, stale))))))) := by kernel_rfl
theorem l_law30_StoreAlone_3_s (N m : Nat) (n : Int) (acts : (List (Bool × (Int × ((List Int) × ((List Int) × (List (List Int)))))))) (i : Int) (f : Int) (room : Bool) (s : (List Int)) (s2 : (List Int)) (s3 : (List (Int × (Int × (List (Int × Int)))))) (towers : (List ((List Int) × ((List Int) × (List (List Int)))))) (handles : (List (Int × Int))) (stale : (List (Int × Int))) (x : (List Int)) (x2 : (List Int)) (x3 : (List (Int × (Int × (List (Int × Int)))))) (h : Int) (h2 : Int) : l_law30_StoreAlone_3 N (m + 1) (n, acts, i, f, room, s, s2, s3, towers, handles, stale, x, x2, x3, h, h2) = obind (nthI acts i) fun z1 =>
  obind (m_ref14_Right N (z1.2.2.1, (z1.2.2.2.1, z1.2.2.2.2))) fun z2 =>
  cond z2
   (cond (!((decide (f = (0 : Int))) == room))
     (some (.inl false))
     (obind (nthI acts i) fun z3 =>
      obind (m_ref14_Right N (z3.2.2.1, (z3.2.2.2.1, z3.2.2.2.2))) fun z4 =>
      cond (!z4)
       (cond (!(decide (f = (1 : Int))))
         (some (.inl false))
         (some (.inr (n, (acts, (i, (f, (s, (s2, (s3, (towers, (handles, (stale, (x, (x2, (x3, (h, h2)))))))))))))))))
       (some (.inr (n, (acts, (i, (f, (s, (s2, (s3, (towers, (handles, (stale, (x, (x2, (x3, (h, h2))))))))))))))))))
   (obind (nthI acts i) fun z5 =>
    obind (m_ref14_Right N (z5.2.2.1, (z5.2.2.2.1, z5.2.2.2.2))) fun z6 =>
    cond (!z6)
     (cond (!(decide (f = (1 : Int))))
       (some (.inl false))
       (some (.inr (n, (acts, (i, (f, (s, (s2, (s3, (towers, (handles, (stale, (x, (x2, (x3, (h, h2)))))))))))))))))
     (some (.inr (n, (acts, (i, (f, (s, (s2, (s3, (towers, (handles, (stale, (x, (x2, (x3, (h, h2))))))))))))))))) := by kernel_rfl
theorem l_law30_StoreAlone_2_s (N m : Nat) (n : Int) (acts : (List (Bool × (Int × ((List Int) × ((List Int) × (List (List Int)))))))) (i : Int) (s : (List Int)) (s2 : (List Int)) (s3 : (List (Int × (Int × (List (Int × Int)))))) (towers : (List ((List Int) × ((List Int) × (List (List Int)))))) (handles : (List (Int × Int))) (stale : (List (Int × Int))) : l_law30_StoreAlone_2 N (m + 1) (n, acts, i, s, s2, s3, towers, handles, stale) = obind (nthI acts i) fun z1 =>
  cond z1.1
   (cond (decide ((0 : Int) < (((List.length handles) : Nat) : Int)))
     (obind (nthI acts i) fun z2 =>
      obind (remI (IntKind.wrap .i64 z2.2.1) (((List.length handles) : Nat) : Int)) fun z3 =>
      obind (nthI handles z3) fun z4 =>
      obind (nthI handles z3) fun z5 =>
      obind (m_store_Give N (s, (s2, (s3, (z5.1, z5.2))))) fun z6 =>
      cond (!(decide (z6.1 = (0 : Int))))
       (some (.inr (.inl false)))
       (obind (nthI handles z3) fun z7 =>
        obind (nthI handles z3) fun z8 =>
        obind (appI (16 : Nat) stale [(z8.1, z8.2)]) fun z9 =>
        obind (subI towers (0 : Int) z3) fun z10 =>
        obind (appI (72 : Nat) [] z10) fun z11 =>
        obind (subI towers (IntKind.wrap .i64 (z3 + (1 : Int))) (((List.length towers) : Nat) : Int)) fun z12 =>
        obind (appI (72 : Nat) z11 z12) fun z13 =>
        obind (subI handles (0 : Int) z3) fun z14 =>
        obind (appI (16 : Nat) [] z14) fun z15 =>
        obind (subI handles (IntKind.wrap .i64 (z3 + (1 : Int))) (((List.length handles) : Nat) : Int)) fun z16 =>
        obind (appI (16 : Nat) z15 z16) fun z17 =>
        some (.inr (.inr (n, (acts, (i, (z6.2.1, (z6.2.2.1, (z6.2.2.2, (z13, (z17, z9))))))))))))
     (some (.inl (n, (acts, (i, (s, (s2, (s3, (towers, (handles, stale)))))))))))
   (some (.inl (n, (acts, (i, (s, (s2, (s3, (towers, (handles, stale)))))))))) := by kernel_rfl
theorem l_law30_StoreAlone_1_s (N m : Nat) (n : Int) (acts : (List (Bool × (Int × ((List Int) × ((List Int) × (List (List Int)))))))) (i : Int) (s : (List Int)) (s2 : (List Int)) (s3 : (List (Int × (Int × (List (Int × Int)))))) (towers : (List ((List Int) × ((List Int) × (List (List Int)))))) (handles : (List (Int × Int))) (stale : (List (Int × Int))) : l_law30_StoreAlone_1 N (m + 1) (n, acts, i, s, s2, s3, towers, handles, stale) = cond (decide (i < (((List.length acts) : Nat) : Int)))
   (obind (nthI acts i) fun z1 =>
    obind (m_ref14_Great N (z1.2.2.1, (z1.2.2.2.1, (z1.2.2.2.2, (100 : Int))))) fun z2 =>
    cond z2
     (some (.inr true))
     (obind (l_law30_StoreAlone_2 N N (n, (acts, (i, (s, (s2, (s3, (towers, (handles, stale))))))))) fun z3 =>
      (match z3 with
      | .inl zy4 => obind (nthI zy4.2.1 zy4.2.2.1) fun z5 =>
        obind (m_store_Put N (zy4.2.2.2.1, (zy4.2.2.2.2.1, (zy4.2.2.2.2.2.1, (z5.2.2.1, (z5.2.2.2.1, z5.2.2.2.2)))))) fun z6 =>
        obind (nthI zy4.2.1 zy4.2.2.1) fun z7 =>
        obind (l_law30_StoreAlone_3 N N (zy4.1, (zy4.2.1, (zy4.2.2.1, (z6.1, ((decide ((((List.length z7.2.2.1) : Nat) : Int) ≤ (((List.length zy4.2.2.2.2.1) : Nat) : Int))), (zy4.2.2.2.1, (zy4.2.2.2.2.1, (zy4.2.2.2.2.2.1, (zy4.2.2.2.2.2.2.1, (zy4.2.2.2.2.2.2.2.1, (zy4.2.2.2.2.2.2.2.2, (z6.2.1, (z6.2.2.1, (z6.2.2.2.1, (z6.2.2.2.2.1, z6.2.2.2.2.2)))))))))))))))) fun z8 =>
        (match z8 with
        | .inl zy9 => some (.inr zy9)
        | .inr zy10 => cond (decide (zy10.2.2.2.1 = (0 : Int)))
           (obind (nthI zy10.2.1 zy10.2.2.1) fun z11 =>
            obind (appI (72 : Nat) zy10.2.2.2.2.2.2.2.1 [(z11.2.2.1, (z11.2.2.2.1, z11.2.2.2.2))]) fun z12 =>
            obind (appI (16 : Nat) zy10.2.2.2.2.2.2.2.2.1 [(zy10.2.2.2.2.2.2.2.2.2.2.2.2.2.1, zy10.2.2.2.2.2.2.2.2.2.2.2.2.2.2)]) fun z13 =>
            (l_law30_StoreAlone_1 N m (zy10.1, (zy10.2.1, ((IntKind.wrap .i64 (zy10.2.2.1 + (1 : Int))), (zy10.2.2.2.2.2.2.2.2.2.2.1, (zy10.2.2.2.2.2.2.2.2.2.2.2.1, (zy10.2.2.2.2.2.2.2.2.2.2.2.2.1, (z12, (z13, zy10.2.2.2.2.2.2.2.2.2.1))))))))))
           ((l_law30_StoreAlone_1 N m (zy10.1, (zy10.2.1, ((IntKind.wrap .i64 (zy10.2.2.1 + (1 : Int))), (zy10.2.2.2.2.1, (zy10.2.2.2.2.2.1, (zy10.2.2.2.2.2.2.1, (zy10.2.2.2.2.2.2.2.1, (zy10.2.2.2.2.2.2.2.2.1, zy10.2.2.2.2.2.2.2.2.2.1)))))))))))
      | .inr zy14 => (match zy14 with
        | .inl zy15 => some (.inr zy15)
        | .inr zy16 => (l_law30_StoreAlone_1 N m (zy16.1, (zy16.2.1, ((IntKind.wrap .i64 (zy16.2.2.1 + (1 : Int))), (zy16.2.2.2.1, (zy16.2.2.2.2.1, (zy16.2.2.2.2.2.1, (zy16.2.2.2.2.2.2.1, (zy16.2.2.2.2.2.2.2.1, zy16.2.2.2.2.2.2.2.2)))))))))))))
   (some (.inl (n, (s, (s2, (s3, (towers, (handles, stale)))))))) := by kernel_rfl
theorem m_law30_StoreAlone_eq (N : Nat) (n : Int) (acts : (List (Bool × (Int × ((List Int) × ((List Int) × (List (List Int)))))))) : m_law30_StoreAlone (N + 1) (n, acts) = obind (m_law30_alive N ()) fun z1 =>
  cond (!z1)
   (some false)
   (cond (decide ((20 : Int) < (((List.length acts) : Nat) : Int)))
     (some true)
     (obind (m_store_Make N (IntKind.wrap .i64 ((1 : Int) + (Int.tmod (IntKind.wrap .i64 n) (60 : Int))))) fun z2 =>
      cond (!(decide (z2.1 = (0 : Int))))
       (some false)
       (obind (l_law30_StoreAlone_1 N N (n, (acts, ((0 : Int), (z2.2.1, (z2.2.2.1, (z2.2.2.2, ([], ([], []))))))))) fun z3 =>
        (match z3 with
        | .inl zy4 => obind (l_law30_StoreAlone_4 N N (zy4.1, ((0 : Int), ((0 : Int), (zy4.2.1, (zy4.2.2.1, (zy4.2.2.2.1, (zy4.2.2.2.2.1, (zy4.2.2.2.2.2.1, zy4.2.2.2.2.2.2))))))))) fun z5 =>
          (match z5 with
          | .inl zy6 => obind (l_law30_StoreAlone_5 N N (zy6.1, (zy6.2.1, ((0 : Int), (zy6.2.2.1, (zy6.2.2.2.1, (zy6.2.2.2.2.1, zy6.2.2.2.2.2))))))) fun z7 =>
            (match z7 with
            | .inl zy8 => obind (m_store_Right N (zy8.2.2.1, (zy8.2.2.2.1, zy8.2.2.2.2))) fun z9 =>
              cond z9
               (cond (decide ((IntKind.wrap .i64 (zy8.2.1 + (((List.length zy8.2.2.2.1) : Nat) : Int))) = (IntKind.wrap .i64 ((1 : Int) + (Int.tmod (IntKind.wrap .i64 zy8.1) (60 : Int))))))
                 (obind (m_ref02_Taken N (zy8.2.2.1, zy8.2.2.2.1)) fun z10 =>
                  some (decide ((((List.length z10) : Nat) : Int) = zy8.2.1)))
                 (some false))
               (some false)
            | .inr zy11 => some zy11)
          | .inr zy12 => some zy12)
        | .inr zy13 => some zy13)))) := by kernel_rfl
theorem c_law30_StoreAlone_ok (N : Nat) : (c_law30_StoreAlone N).ok Try.prog := exF_ok (T := T) (CT := ct_law30_StoreAlone) (N := N) (fun M => ⟨tOk, (ctAll_cons (c_law30_alive_ok M) (ctAll_cons (c_store_Make_ok M) (ctAll_cons (c_ref14_Great_ok M) (ctAll_cons (c_store_Put_ok M) (ctAll_cons (c_ref14_Right_ok M) (ctAll_cons (c_store_Give_ok M) (ctAll_cons (c_store_Read_ok M) (ctAll_cons (c_ref14_Same_ok M) (ctAll_cons (c_store_Right_ok M) (ctAll_cons (c_ref02_Taken_ok M) ctAll_nil)))))))))), mixed, bwAll⟩) Try.func6 (by kernel_rfl) (by kernel_rfl) p_law30_StoreAlone _ _ [s0, s16] r_law30_StoreAlone false true [] (by kernel_rfl) (fun y => by kernel_rfl) (fun _ => ⟨rfl, rfl⟩) (fun y => by kernel_rfl) (m_law30_StoreAlone N) (fun x => by kernel_rfl)
end Go.Proofs.Ytdahghkmejnlgaa
end
section
set_option linter.unusedVariables false
set_option linter.unusedSimpArgs false
namespace Go.Proofs.Ytdahghkmejnlgaa
open Go Go.RowKit
theorem right_lens {g f : List Int} {ns : List Nd} (hr : rightS g f ns = true) : g.length ≤ 1000 ∧ f.length ≤ 1000 ∧ ns.length ≤ 1000 ∧ LN ns := by
  obtain ⟨hb, hlen, hc⟩ := rightS_cells.1 hr
  obtain ⟨g1, f1, _⟩ := right_len hb
  refine ⟨g1, f1, by omega, by omega, fun x hx => ?_⟩
  obtain ⟨c, hx⟩ := List.getElem?_of_mem hx
  obtain ⟨a, b⟩ := hc c x hx
  by_cases h : (c : Int) ∈ f
  · rw [a h]; simp
  · have := (fullN_iff.1 (b h)).1; omega
theorem read_right (N : Nat) (hN : Fu + 9 ≤ N) {g f : List Int} {ns : List Nd} (hr : rightS g f ns = true) (h : Hd) : m_store_Read N (g, f, ns, h.1, h.2) = some (readS g f ns h) := by
  obtain ⟨h1, h2, _, h3⟩ := right_lens hr
  exact read_eq N hN g f (by omega) (by omega) ns h3 h.1 h.2
theorem give_right (N : Nat) (hN : Fu + 10 ≤ N) {g f : List Int} {ns : List Nd} (hr : rightS g f ns = true) (h : Hd) : m_store_Give N (g, f, ns, h.1, h.2) = some (sgiveS g f ns h) := by
  obtain ⟨h1, h2, _, h3⟩ := right_lens hr
  exact sgive_eq N hN g f (by omega) (by omega) ns h3 h.1 h.2
theorem right_right (N : Nat) (hN : Fu + 8 ≤ N) {g f : List Int} {ns : List Nd} (hr : rightS g f ns = true) : m_store_Right N (g, f, ns) = some true := by
  obtain ⟨h1, h2, _, h3⟩ := right_lens hr
  rw [sright_eq N hN g f (by omega) (by omega) ns h3, hr]
theorem read_stale {g f : List Int} {ns : List Nd} (hr : rightS g f ns = true) {h : Hd} (hg : goodB g f h.1 h.2 = false) : readS g f ns h = (3, [], [], [], []) := by
  unfold readS
  rw [if_neg (by simp [hr]), if_pos hg]
open Classical in
theorem putS_cases (g f : List Int) (ns : List Nd) (t t2 : List Int) (t3 : List (List Int)) :
    (rightS g f ns = true ∧ TowerR t t2 t3 ∧ (takeN t.length g f).1 = 0 ∧ putS g f ns t t2 t3 = (0, (takeN t.length g f).2.1, (takeN t.length g f).2.2.1, wrK (takeN t.length g f).2.2.2 t t2 t3 ns t.length, toH (takeN t.length g f).2.2.2 0)) ∨
    ((putS g f ns t t2 t3).1 ≠ 0 ∧ putS g f ns t t2 t3 = ((putS g f ns t t2 t3).1, g, f, ns, 0, 0) ∧ (rightS g f ns = true → TowerR t t2 t3 → (takeN t.length g f).1 ≠ 0) ∧ (rightS g f ns = true → ¬ TowerR t t2 t3 → (putS g f ns t t2 t3).1 = 1)) := by
  unfold putS
  by_cases h1 : rightS g f ns = false
  · rw [if_pos h1]; exact .inr ⟨by simp, rfl, (fun q => by rw [h1] at q; cases q), (fun q => by rw [h1] at q; cases q)⟩
  rw [if_neg h1]
  by_cases ht : TowerR t t2 t3
  · rw [if_neg (show ¬ ¬ TowerR t t2 t3 from fun q => q ht)]
    by_cases h0 : (takeN t.length g f).1 = 0
    · rw [if_neg (fun q => q h0)]; exact .inl ⟨by simpa using h1, ht, h0, rfl⟩
    · rw [if_pos h0]; exact .inr ⟨h0, rfl, fun _ _ => h0, fun _ q => absurd ht q⟩
  · rw [if_pos ht]; exact .inr ⟨by simp, rfl, fun _ q => absurd q ht, fun _ _ => rfl⟩
theorem tower_lens {t t2 : List Int} {t3 : List (List Int)} (h : TowerR t t2 t3) : Lens (t, t2, t3) := by
  obtain ⟨h1, rfl⟩ := h
  exact build_lens h1
end Go.Proofs.Ytdahghkmejnlgaa
end
section
set_option linter.unusedVariables false
set_option linter.unusedSimpArgs false
namespace Go.Proofs.Ytdahghkmejnlgaa
open Go Go.RowKit
theorem rtaken2_loop (N : Nat) (gens free out : List Int) (c : Int) (hm : free.length ≤ 1000) : ∀ (k i m : Nat) (b : Bool), i + k = free.length → k < m →
    l_ref02_Taken_2 N m (c, b, (i : Int), gens, free, out) = some (c, (b || decide (c ∈ free.drop i)), gens, free, out)
  | k, i, 0, b, h1, h2 => by omega
  | 0, i, m + 1, b, h1, h2 => by
    rw [l_ref02_Taken_2_s, cd, if_neg (by omega), List.drop_eq_nil_of_le (by omega)]; simp
  | k + 1, i, m + 1, b, h1, h2 => by
    obtain ⟨x, hx⟩ := get_at (xs := free) (i := i) (by omega)
    rw [l_ref02_Taken_2_s, cd, if_pos (by omega), nth_of hx, ob, w64n (by omega), rtaken2_loop N gens free out c hm k (i + 1) m _ (by omega) (by omega), rtaken2_loop N gens free out c hm k (i + 1) m _ (by omega) (by omega), drop_at hx]
    cases b
    · by_cases h : x = c
      · simp [h]
      · have h' : ¬ c = x := fun e => h e.symm
        simp [h, h']
    · simp
theorem rtaken_loop (N : Nat) (hN : Fu ≤ N) (gens free : List Int) (hg : gens.length ≤ 1000) (hm : free.length ≤ 1000) : ∀ (k i m : Nat) (l : List Int), i + k = gens.length → k < m → l.length ≤ i →
    l_ref02_Taken_1 N m ((i : Int), gens, free, l) = some (l ++ ((List.range' i k).map Int.ofNat).filter (fun c => !decide (c ∈ free)))
  | k, i, 0, l, h1, h2, hl => by omega
  | 0, i, m + 1, l, h1, h2, hl => by
    rw [l_ref02_Taken_1_s, cd, if_neg (by omega)]; simp
  | k + 1, i, m + 1, l, h1, h2, hl => by
    have h3 := rtaken2_loop N gens free l (i : Int) hm free.length 0 N false (by omega) (by have := Fu_eq; omega)
    rw [show (((0 : Nat) : Int) = 0) from rfl, List.drop_zero] at h3
    rw [l_ref02_Taken_1_s, cd, if_pos (by omega), h3, ob, range'_split, List.filter_cons]
    simp only [Bool.false_or]
    rw [w64n (by omega)]
    by_cases h : (i : Int) ∈ free
    · simp only [h, decide_true, Bool.not_true, cond_false]
      rw [rtaken_loop N hN gens free hg hm k (i + 1) m l (by omega) (by omega) (by omega)]
      simp
    · simp only [h, decide_false, Bool.not_false, cond_true]
      rw [app_of (by omega) (by simp; omega), ob, rtaken_loop N hN gens free hg hm k (i + 1) m _ (by omega) (by omega) (by simp; omega)]
      simp
theorem rtaken_eq (N : Nat) (hN : Fu + 3 ≤ N) (gens free : List Int) (hg : gens.length ≤ 9223372036854775807) (hm : free.length ≤ 9223372036854775807) : m_ref02_Taken N (gens, free) = some (takenL gens free) := by
  obtain ⟨N, rfl⟩ : ∃ n, N = n + 1 := ⟨N - 1, by omega⟩
  rw [m_ref02_Taken_eq, prright_eq N (by omega) gens free hg hm, ob, cb]
  unfold takenL
  by_cases h : rightB gens free = true
  · obtain ⟨l1, l2, -⟩ := right_len h
    have := rtaken_loop N (by omega) gens free l1 l2 gens.length 0 N [] (by omega) (by have := Fu_eq; omega) (by simp)
    rw [show (((0 : Nat) : Int) = 0) from rfl] at this
    simp only [h, Bool.not_true, Bool.false_eq_true, if_false, this, ob, if_true]
    rw [List.nil_append, upI_range']
  · simp [h]
end Go.Proofs.Ytdahghkmejnlgaa
end
section
set_option linter.unusedVariables false
set_option linter.unusedSimpArgs false
namespace Go.Proofs.Ytdahghkmejnlgaa
open Go Go.RowKit
abbrev Tw := List Int × List Int × List (List Int)
abbrev Held := Tw × List Hd
def hdOf (x : Held) : Hd := toH x.2 0
def sumL (hs : List Held) : Nat := (hs.map fun x => x.2.length).sum
structure SInv (n i : Nat) (g f : List Int) (ns : List Nd) (hs : List Held) (stale : List Hd) : Prop where
  right : rightS g f ns = true
  len : g.length = n
  holds : ∀ x ∈ hs, Holds g f ns x.1.1 x.1.2.1 x.1.2.2 x.2
  apart : hs.Pairwise fun x y => ∀ h ∈ x.2, h ∉ y.2
  cover : ∀ (c : Nat) x, ns[c]? = some x → (c : Int) ∉ f → ∃ y ∈ hs, ∃ h ∈ y.2, h.1 = (c : Int)
  sum : f.length + sumL hs = n
  gens : ∀ c : Nat, g.getD c 0 ≤ (i : Int)
  old : ∀ h ∈ stale, 0 ≤ h.1 ∧ h.2 ≤ g.getD h.1.toNat 0 ∧ (g.getD h.1.toNat 0 = h.2 → h.1 ∈ f)
  many : hs.length ≤ i ∧ stale.length ≤ i
theorem SInv.up {n i : Nat} {g f : List Int} {ns : List Nd} {hs : List Held} {stale : List Hd} (I : SInv n i g f ns hs stale) : SInv n (i + 1) g f ns hs stale :=
  ⟨I.right, I.len, I.holds, I.apart, I.cover, I.sum, fun c => by have := I.gens c; omega, I.old, by have := I.many; omega⟩
theorem takeN_room : ∀ (k : Nat) {g f : List Int}, rightB g f = true → k ≤ f.length → (∀ c ∈ f, g.getD c.toNat 0 ≠ 1073741824) → (takeN k g f).1 = 0
  | 0, g, f, _, _, _ => rfl
  | k + 1, g, f, h, hk, hg => by
    have hne : f ≠ [] := fun e => by rw [e] at hk; simp at hk
    obtain ⟨c, hc, _⟩ := last_at hne
    obtain ⟨e, c0, c1, cn, hr⟩ := takeP_ok h hc (hg c (List.mem_of_getLast? hc))
    have h1 : (takeP g f).1 = 0 := by rw [e]
    have h2 : (takeN k (takeP g f).2.1 (takeP g f).2.2.1).1 = 0 := by
      rw [e]
      refine takeN_room k hr (by simp only [List.length_dropLast]; omega) fun d hd => ?_
      have hdf := List.dropLast_subset f hd
      have hne' : d ≠ c := fun q => cn (q ▸ hd)
      have hd0 := (right_cell h hdf).1
      rw [getD_set_ne (by omega)]
      exact hg d hdf
    rw [takeN_s h1 h2]
theorem sumL_append (a b : List Held) : sumL (a ++ b) = sumL a + sumL b := by simp [sumL]
theorem SInv.put {n i : Nat} {g f : List Int} {ns : List Nd} {hs : List Held} {stale : List Hd} (I : SInv n i g f ns hs stale) {t t2 : List Int} {t3 : List (List Int)} {g' f' : List Int} {ns' : List Nd} {l : List Hd} (P : PutOk g f ns t t2 t3 g' f' ns' l) :
    SInv n (i + 1) g' f' ns' (hs ++ [((t, t2, t3), l)]) stale := by
  obtain ⟨_, hlen, hcells⟩ := rightS_cells.1 I.right
  have hgen : ∀ c : Nat, g.getD c 0 ≤ g'.getD c 0 ∧ g'.getD c 0 ≤ g.getD c 0 + 1 ∧ ((c : Int) ∈ l.map (·.1) → g'.getD c 0 = g.getD c 0 + 1) := fun c => by
    by_cases hc : (c : Int) ∈ l.map (·.1)
    · obtain ⟨h, hh, e⟩ := List.mem_map.1 hc
      obtain ⟨a, b⟩ := P.one h hh
      rw [e, Int.toNat_natCast] at a b
      exact ⟨by omega, by omega, fun _ => by omega⟩
    · have := (P.same c hc).1; exact ⟨by omega, by omega, fun q => absurd q hc⟩
  refine ⟨P.right, P.gens.trans I.len, fun x hx => ?_, ?_, fun c x hx hc => ?_, ?_, fun c => by have := (hgen c).2.1; have := I.gens c; omega, fun h hh => ?_, by simp; have := I.many; omega⟩
  · rcases List.mem_append.1 hx with hx | hx
    · exact ((I.holds x hx).put P).1
    · simp only [List.mem_singleton] at hx; subst hx; exact P.holds
  · rw [List.pairwise_append]
    refine ⟨I.apart, by simp, fun x hx y hy h hh => ?_⟩
    simp only [List.mem_singleton] at hy; subst hy
    exact ((I.holds x hx).put P).2 h hh
  · by_cases hcl : (c : Int) ∈ l.map (·.1)
    · obtain ⟨h, hh, e⟩ := List.mem_map.1 hcl
      exact ⟨((t, t2, t3), l), by simp, h, hh, e⟩
    · rw [(P.same c hcl).2] at hx
      obtain ⟨y, hy, h, hh, e⟩ := I.cover c x hx (by rw [P.free]; simp only [List.mem_append, List.mem_reverse]; exact fun q => q.elim hc hcl)
      exact ⟨y, List.mem_append.2 (.inl hy), h, hh, e⟩
  · have hfl : f.length = f'.length + l.length := by rw [P.free]; simp
    have := I.sum
    rw [sumL_append]
    simp only [sumL, List.map_cons, List.map_nil, List.sum_cons, List.sum_nil] at this ⊢
    omega
  · obtain ⟨a, b, c⟩ := I.old h hh
    have hct : ((h.1.toNat : Nat) : Int) = h.1 := by omega
    obtain ⟨p, q, r⟩ := hgen h.1.toNat
    rw [hct] at r
    refine ⟨a, by omega, fun e => ?_⟩
    by_cases hcl : h.1 ∈ l.map (·.1)
    · have := r hcl; omega
    · have hm := c (by omega)
      rw [P.free] at hm
      simp only [List.mem_append, List.mem_reverse] at hm
      exact hm.elim id fun q => absurd q hcl
theorem SInv.apart2 {n i : Nat} {g f : List Int} {ns : List Nd} {hs : List Held} {stale : List Hd} (I : SInv n i g f ns hs stale) {k : Nat} {x : Held} (hk : hs[k]? = some x) : ∀ y ∈ hs.take k ++ hs.drop (k + 1), ∀ h ∈ y.2, h ∉ x.2 := by
  have e : hs = hs.take k ++ x :: hs.drop (k + 1) := by rw [← drop_at hk, List.take_append_drop]
  have ha := I.apart
  rw [e, List.pairwise_append, List.pairwise_cons] at ha
  intro y hy h hh hx
  rcases List.mem_append.1 hy with hy | hy
  · exact ha.2.2 y hy x (by simp) h hh hx
  · exact ha.2.1.1 y hy h hx hh
theorem mem_split {hs : List Held} {k : Nat} {x : Held} (hk : hs[k]? = some x) {y : Held} (hy : y ∈ hs) : y = x ∨ y ∈ hs.take k ++ hs.drop (k + 1) := by
  have e : hs = hs.take k ++ x :: hs.drop (k + 1) := by rw [← drop_at hk, List.take_append_drop]
  rw [e] at hy
  rcases List.mem_append.1 hy with hy | hy
  · exact .inr (List.mem_append.2 (.inl hy))
  · rcases List.mem_cons.1 hy with hy | hy
    · exact .inl hy
    · exact .inr (List.mem_append.2 (.inr hy))
theorem rest_mem {hs : List Held} {k : Nat} {y : Held} (hy : y ∈ hs.take k ++ hs.drop (k + 1)) : y ∈ hs := by
  rcases List.mem_append.1 hy with hy | hy
  · exact List.mem_of_mem_take hy
  · exact List.mem_of_mem_drop hy
theorem node_next {g f : List Int} {ns : List Nd} {t t2 : List Int} {t3 : List (List Int)} {l : List Hd} (H : Holds g f ns t t2 t3 l) {h : Hd} (hh : h ∈ l) : ∀ q ∈ (nd ns h).2.2, q ∈ l := by
  obtain ⟨i, hi⟩ := List.getElem?_of_mem hh
  have hil := (List.getElem?_eq_some_iff.1 hi).1
  have hlen := H.len
  obtain ⟨e2, hrows, h1000, hne, hnd⟩ := tower_rows H.tow
  intro q hq
  rw [H.node i h hi, nodeK, tower_get H.tow (by omega)] at hq
  obtain ⟨j, hj, rfl⟩ := List.mem_map.1 hq
  obtain ⟨y, _, rfl⟩ := List.mem_map.1 hj
  obtain ⟨l0, l1⟩ := link_range (hs := t2) (i := i) (h := y) (by omega)
  have hql : (linkOf t2 i y).toNat < l.length := by omega
  rw [toH, List.getD_eq_getElem?_getD, List.getElem?_eq_getElem hql]
  exact List.getElem_mem _
theorem SInv.leads {n i : Nat} {g f : List Int} {ns : List Nd} {hs : List Held} {stale : List Hd} (I : SInv n i g f ns hs stale) {k : Nat} {x : Held} (hk : hs[k]? = some x) : leadsFrom x.2 0 ns = false := by
  obtain ⟨_, hlen, hcells⟩ := rightS_cells.1 I.right
  rw [leadsFrom_iff]
  intro c z hz hne q hq hqx
  obtain ⟨a, b⟩ := hcells c z hz
  by_cases hf : (c : Int) ∈ f
  · rw [a hf] at hq; cases hq
  · obtain ⟨y, hy, h, hh, e⟩ := I.cover c z hz hf
    have hzn : nd ns h = z := by rw [nd, e, Int.toNat_natCast, List.getD_eq_getElem?_getD, hz]; rfl
    have hqy := node_next (I.holds y hy) hh q (by rw [hzn]; exact hq)
    rcases mem_split hk hy with rfl | hy'
    · exact hne h hh (by rw [e, Nat.zero_add])
    · exact I.apart2 hk y hy' q hqy hqx
theorem SInv.give {n i : Nat} {g f : List Int} {ns : List Nd} {hs : List Held} {stale : List Hd} (I : SInv n i g f ns hs stale) {k : Nat} {x : Held} (hk : hs[k]? = some x) :
    ∃ f' ns', sgiveS g f ns (hdOf x) = (0, g, f', ns') ∧ SInv n (i + 1) g f' ns' (hs.take k ++ hs.drop (k + 1)) (stale ++ [hdOf x]) := by
  have hx := List.mem_of_getElem? hk
  have H := I.holds x hx
  obtain ⟨e2, hrows, h1000, hne, hnd⟩ := tower_rows H.tow
  have hpos : 0 < x.2.length := by rw [H.len]; exact List.length_pos_iff.2 hne
  have hz : x.2[0]? = some (hdOf x) := by
    rw [hdOf, toH, show (0 : Int).toNat = 0 from rfl, List.getD_eq_getElem?_getD, List.getElem?_eq_getElem (i := 0) (by omega)]; rfl
  obtain ⟨f', ns', hgv, G⟩ := hold_give I.right H hz (I.leads hk)
  have hL : ∀ q, q ∈ (rotL 0 x.2).reverse ↔ q ∈ x.2 := fun q => by rw [rotL_zero, List.mem_reverse]
  have hfl : f'.length = f.length + x.2.length := by rw [G.free, rotL_zero]; simp
  have hsum : sumL hs = sumL (hs.take k ++ hs.drop (k + 1)) + x.2.length := by
    have e : hs = hs.take k ++ x :: hs.drop (k + 1) := by rw [← drop_at hk, List.take_append_drop]
    conv => lhs; rw [e]
    rw [sumL_append, sumL_append]
    simp only [sumL, List.map_cons, List.sum_cons]
    omega
  have hmem : ∀ c : Int, c ∈ f' ↔ c ∈ f ∨ ∃ h ∈ x.2, h.1 = c := fun c => by
    rw [G.free, List.mem_append]
    refine or_congr_right ⟨fun h => ?_, fun ⟨h, hh, e⟩ => List.mem_map.2 ⟨h, (hL h).2 hh, e⟩⟩
    obtain ⟨h, hh, e⟩ := List.mem_map.1 h
    exact ⟨h, (hL h).1 hh, e⟩
  have hgood := H.good (hdOf x) (List.mem_of_getElem? hz)
  obtain ⟨_, c0, c1, c2, c3⟩ := goodB_iff.1 hgood
  refine ⟨f', ns', hgv, G.right, I.len, fun y hy => ?_, ?_, fun c z hz' hc => ?_, ?_, fun c => by have := I.gens c; omega, fun h hh => ?_, ?_⟩
  · exact (I.holds y (rest_mem hy)).give G fun h hh hl => I.apart2 hk y hy h hh ((hL h).1 hl)
  · refine List.Pairwise.sublist ?_ I.apart
    conv => rhs; rw [← List.take_append_drop k hs, drop_at hk]
    exact (List.Sublist.refl _).append (List.sublist_cons_self _ _)
  · have hnx : ∀ h ∈ x.2, h.1 ≠ (c : Int) := fun h hh e => hc ((hmem _).2 (.inr ⟨h, hh, e⟩))
    rw [G.same c fun h hh => hnx h ((hL h).1 hh)] at hz'
    obtain ⟨y, hy, h, hh, e⟩ := I.cover c z hz' fun q => hc ((hmem _).2 (.inl q))
    rcases mem_split hk hy with rfl | hy'
    · exact absurd e (hnx h hh)
    · exact ⟨y, hy', h, hh, e⟩
  · have := I.sum; omega
  · rcases List.mem_append.1 hh with hh | hh
    · obtain ⟨a, b, c⟩ := I.old h hh
      exact ⟨a, b, fun e => (hmem _).2 (.inl (c e))⟩
    · simp only [List.mem_singleton] at hh; subst hh
      exact ⟨c0, by omega, fun _ => (hmem _).2 (.inr ⟨_, List.mem_of_getElem? hz, rfl⟩)⟩
  · have hm := I.many
    have hkl := (List.getElem?_eq_some_iff.1 hk).1
    simp only [List.length_append, List.length_take, List.length_drop, List.length_cons, List.length_nil]
    omega
end Go.Proofs.Ytdahghkmejnlgaa
end
section
set_option linter.unusedVariables false
set_option linter.unusedSimpArgs false
namespace Go.Proofs.Ytdahghkmejnlgaa
open Go Go.RowKit
abbrev Ac := Bool × Int × Tw
def ActR (a : Ac) : Prop := (0 ≤ a.2.1 ∧ a.2.1 ≤ 255) ∧ a.2.2.1.length ≤ 9223372036854775807 ∧ a.2.2.2.1.length ≤ 9223372036854775807 ∧ a.2.2.2.2.length ≤ 9223372036854775807
theorem sub_drop2 {α : Type} {xs : List α} {l e : Int} (h1 : 0 ≤ l) (h2 : l ≤ xs.length) (he : e = (xs.length : Int)) : subI xs l e = some (xs.drop l.toNat) := by
  rw [he]; exact sub_drop h1 h2
theorem alone2_skip (N : Nat) (m : Nat) (hm : 1 ≤ m) (n : Int) (acts : List Ac) (i : Nat) (a : Ac) (ha : acts[i]? = some a) (g f : List Int) (ns : List Nd) (tw : List Tw) (hd stale : List Hd) (h : ¬ (a.1 = true ∧ 0 < hd.length)) :
    l_law30_StoreAlone_2 N m (n, acts, (i : Int), g, f, ns, tw, hd, stale) = some (.inl (n, acts, (i : Int), g, f, ns, tw, hd, stale)) := by
  obtain ⟨m, rfl⟩ : ∃ q, m = q + 1 := ⟨m - 1, by omega⟩
  rw [l_law30_StoreAlone_2_s, nth_of ha, ob]
  cases h1 : a.1 with
  | false => rfl
  | true =>
    rw [cond_true, cd, if_neg (fun q => h ⟨h1, by omega⟩)]
theorem alone2_give (N : Nat) (hN : Fu + 10 ≤ N) (m : Nat) (hm : 1 ≤ m) (n : Int) (acts : List Ac) (i : Nat) (a : Ac) (ha : acts[i]? = some a) (hR : ActR a) {nn : Nat} {g f : List Int} {ns : List Nd} {hs : List Held} {stale : List Hd} (I : SInv nn i g f ns hs stale) (hi : i ≤ 1000) (h1 : a.1 = true) (h2 : 0 < hs.length) :
    ∃ f' ns' hs' stale', l_law30_StoreAlone_2 N m (n, acts, (i : Int), g, f, ns, hs.map (·.1), hs.map hdOf, stale) = some (.inr (.inr (n, acts, (i : Int), g, f', ns', hs'.map (·.1), hs'.map hdOf, stale'))) ∧ SInv nn (i + 1) g f' ns' hs' stale' := by
  obtain ⟨m, rfl⟩ : ∃ q, m = q + 1 := ⟨m - 1, by omega⟩
  obtain ⟨⟨k0, k1⟩, _⟩ := hR
  obtain ⟨kn, hkn⟩ : ∃ kn : Nat, a.2.1 = (kn : Int) := ⟨a.2.1.toNat, by omega⟩
  obtain ⟨m1, m2⟩ := I.many
  have hm : kn % hs.length < hs.length := Nat.mod_lt _ h2
  obtain ⟨x, hx⟩ := get_at hm
  obtain ⟨f', ns', hgv, I'⟩ := I.give hx
  have hh : (hs.map hdOf)[kn % hs.length]? = some (hdOf x) := by rw [List.getElem?_map, hx]; rfl
  refine ⟨f', ns', _, _, ?_, I'⟩
  have hl1 : ((hs.map hdOf).length : Int) = (hs.length : Int) := by rw [List.length_map]
  have hl2 : ((hs.map (·.1)).length : Int) = (hs.length : Int) := by rw [List.length_map]
  rw [l_law30_StoreAlone_2_s, nth_of ha, ob, h1, cond_true, cd, if_pos (by rw [hl1]; omega), ob, hkn, w64 (by omega) (by omega), rem_of (by rw [hl1]; omega), ob, hl1, tmod_nat, nth_of hh, ob, ob, give_right N hN I.right, hgv, ob, cdn, if_pos rfl, ob, ob,
    app_of (by omega) (by simp; omega), ob, sub_take (by omega) (by rw [List.length_map]; omega), ob, app_of (by omega) (by simp; omega), ob, w64n (by omega), sub_drop2 (by omega) (by rw [List.length_map]; omega) (by rw [List.length_map]), ob, app_of (by omega) (by simp; omega), ob, sub_take (by omega) (by rw [List.length_map]; omega), ob, app_of (by omega) (by simp; omega), ob, sub_drop2 (by omega) (by rw [List.length_map]; omega) (by rw [List.length_map]), ob, app_of (by omega) (by simp; omega), ob]
  simp only [List.nil_append, Int.toNat_natCast, List.map_append, List.map_take, List.map_drop]
theorem alone3 (N : Nat) (hN : Fu + 6 ≤ N) (m : Nat) (hm : 1 ≤ m) (n : Int) (acts : List Ac) (i : Nat) (a : Ac) (ha : acts[i]? = some a) (hR : ActR a) (fc : Int) (room : Bool) (g f : List Int) (ns : List Nd) (tw : List Tw) (hd stale : List Hd) (x x2 : List Int) (x3 : List Nd) (h h2 : Int)
    (c1 : TowerR a.2.2.1 a.2.2.2.1 a.2.2.2.2 → decide (fc = 0) = room) (c2 : ¬ TowerR a.2.2.1 a.2.2.2.1 a.2.2.2.2 → fc = 1) :
    l_law30_StoreAlone_3 N m (n, acts, (i : Int), fc, room, g, f, ns, tw, hd, stale, x, x2, x3, h, h2) = some (.inr (n, acts, (i : Int), fc, g, f, ns, tw, hd, stale, x, x2, x3, h, h2)) := by
  obtain ⟨m, rfl⟩ : ∃ q, m = q + 1 := ⟨m - 1, by omega⟩
  have hr := rright_eq N hN a.2.2.1 a.2.2.2.1 a.2.2.2.2 hR.2.1 hR.2.2.1
  rw [l_law30_StoreAlone_3_s, nth_of ha, ob, hr, ob]
  by_cases ht : TowerR a.2.2.1 a.2.2.2.1 a.2.2.2.2
  · rw [decide_eq_true ht] at hr ⊢
    rw [cond_true, c1 ht]
    simp only [beq_self_eq_true, Bool.not_true, cond_false, ob, hr]
  · rw [decide_eq_false ht] at hr ⊢
    rw [cond_false, ob, hr, ob, Bool.not_false, cond_true, cdn, if_pos (c2 ht)]
theorem alone1 (N : Nat) (hN : Fu + 12 ≤ N) (n : Int) (acts : List Ac) (hR : ∀ a ∈ acts, ActR a) (hA : acts.length ≤ 20) (nn : Nat) : ∀ (k i m : Nat) (g f : List Int) (ns : List Nd) (hs : List Held) (stale : List Hd), i + k = acts.length → k < m → SInv nn i g f ns hs stale →
    l_law30_StoreAlone_1 N m (n, acts, (i : Int), g, f, ns, hs.map (·.1), hs.map hdOf, stale) = some (.inr true) ∨ ∃ g' f' ns' hs' stale', l_law30_StoreAlone_1 N m (n, acts, (i : Int), g, f, ns, hs.map (·.1), hs.map hdOf, stale) = some (.inl (n, g', f', ns', hs'.map (·.1), hs'.map hdOf, stale')) ∧ SInv nn acts.length g' f' ns' hs' stale'
  | k, i, 0, g, f, ns, hs, stale, h1, h2, I => by omega
  | 0, i, m + 1, g, f, ns, hs, stale, h1, h2, I => by
    obtain rfl : i = acts.length := by omega
    refine .inr ⟨g, f, ns, hs, stale, ?_, I⟩
    rw [l_law30_StoreAlone_1_s, cd, if_neg (by omega)]
  | k + 1, i, m + 1, g, f, ns, hs, stale, h1, h2, I => by
    obtain ⟨a, ha⟩ := get_at (xs := acts) (i := i) (by omega)
    have haR := hR a (List.mem_of_getElem? ha)
    obtain ⟨b, hb⟩ := rgreat_ex N (by omega) a.2.2.1 a.2.2.2.1 a.2.2.2.2 100 haR.2.2.2
    obtain ⟨r1, r2, r3, r4⟩ := right_lens I.right
    obtain ⟨m1, m2⟩ := I.many
    rw [l_law30_StoreAlone_1_s, cd, if_pos (by omega), nth_of ha, ob, hb, ob]
    cases b with
    | true => exact .inl rfl
    | false =>
      rw [cond_false]
      by_cases hc : a.1 = true ∧ 0 < hs.length
      · obtain ⟨f', ns', hs', stale', e, I'⟩ := alone2_give N (by omega) N (by omega) n acts i a ha haR I (by omega) hc.1 hc.2
        rw [e, ob]
        simp only
        rw [w64n (by omega)]
        exact alone1 N hN n acts hR hA nn k (i + 1) m _ _ _ _ _ (by omega) (by omega) I'
      · rw [alone2_skip N N (by omega) n acts i a ha g f ns _ _ stale (by rw [List.length_map]; exact hc), ob]
        simp only
        rw [nth_of ha, ob, put_eq N (by omega) g f (by omega) (by omega) ns r4 _ _ _ haR.2.1 haR.2.2.1, ob, ob]
        rcases putS_cases g f ns a.2.2.1 a.2.2.2.1 a.2.2.2.2 with ⟨hr, ht, h0, e⟩ | ⟨h0, e, e1, e2⟩
        · have P := put_ok hr ht h0
          rw [e]
          generalize takeN a.2.2.1.length g f = r at *
          obtain ⟨rz, g', f', l⟩ := r
          simp only at P ⊢
          have hfl : f.length = f'.length + l.length := by rw [P.free]; simp
          have hll := P.holds.len
          rw [alone3 N (by omega) N (by omega) n acts i a ha haR 0 _ _ _ _ _ _ _ _ _ _ _ _ (fun _ => by rw [decide_eq_true rfl]; symm; exact decide_eq_true (by omega)) (fun q => absurd ht q), ob]
          simp only
          rw [cd, if_pos trivial, nth_of ha, ob, app_of (by omega) (by simp; omega), ob, app_of (by omega) (by simp; omega), ob, w64n (by omega)]
          have I' := I.put P
          have := alone1 N hN n acts hR hA nn k (i + 1) m _ _ _ _ _ (by omega) (by omega) I'
          rw [List.map_append, List.map_append] at this
          exact this
        · obtain ⟨c, hce⟩ : ∃ c, c = (putS g f ns a.2.2.1 a.2.2.2.1 a.2.2.2.2).1 := ⟨_, rfl⟩
          rw [← hce] at h0 e e2
          rw [e]
          simp only
          rw [alone3 N (by omega) N (by omega) n acts i a ha haR c _ _ _ _ _ _ _ _ _ _ _ _ (fun q => by
              rw [decide_eq_false h0]; symm
              refine decide_eq_false fun hle => e1 I.right q (takeN_room _ (rightS_cells.1 I.right).1 (by omega) fun d hd => by have := I.gens d.toNat; omega)) (fun q => e2 I.right q), ob]
          simp only
          rw [cd, if_neg h0, w64n (by omega)]
          exact alone1 N hN n acts hR hA nn k (i + 1) m _ _ _ _ _ (by omega) (by omega) I.up
theorem held_read {n i : Nat} {g f : List Int} {ns : List Nd} {hs : List Held} {stale : List Hd} (I : SInv n i g f ns hs stale) {x : Held} (hx : x ∈ hs) : readS g f ns (hdOf x) = (0, x.1.1, x.1.2.1, x.1.2.2, x.2) := by
  have H := I.holds x hx
  obtain ⟨e2, hrows, h1000, hne, hnd⟩ := tower_rows H.tow
  have hpos : 0 < x.2.length := by rw [H.len]; exact List.length_pos_iff.2 hne
  have hz : x.2[0]? = some (hdOf x) := by
    rw [hdOf, toH, show (0 : Int).toNat = 0 from rfl, List.getD_eq_getElem?_getD, List.getElem?_eq_getElem (i := 0) (by omega)]; rfl
  have := hold_read I.right H hz
  rwa [rotL_zero, rotL_zero, rotL_zero, ← H.tow.2] at this
theorem alone4 (N : Nat) (hN : Fu + 9 ≤ N) (n : Int) {nn q : Nat} {g f : List Int} {ns : List Nd} {hs : List Held} {stale : List Hd} (I : SInv nn q g f ns hs stale) (hb : sumL hs ≤ 1000000 ∧ hs.length ≤ 1000000) : ∀ (k i m c : Nat), i + k = hs.length → k < m → c + sumL (hs.drop i) ≤ 1000000 →
    l_law30_StoreAlone_4 N m (n, (c : Int), (i : Int), g, f, ns, hs.map (·.1), hs.map hdOf, stale) = some (.inl (n, ((c + sumL (hs.drop i) : Nat) : Int), g, f, ns, stale))
  | k, i, 0, c, h1, h2, h3 => by omega
  | 0, i, m + 1, c, h1, h2, h3 => by
    rw [l_law30_StoreAlone_4_s, cd, if_neg (by rw [List.length_map]; omega), List.drop_eq_nil_of_le (by omega)]
    rfl
  | k + 1, i, m + 1, c, h1, h2, h3 => by
    obtain ⟨x, hx⟩ := get_at (xs := hs) (i := i) (by omega)
    have hxm := List.mem_of_getElem? hx
    have hh : (hs.map hdOf)[i]? = some (hdOf x) := by rw [List.getElem?_map, hx]; rfl
    have ht : (hs.map (·.1))[i]? = some x.1 := by rw [List.getElem?_map, hx]; rfl
    rw [drop_at hx] at h3 ⊢
    have hsx : sumL (x :: hs.drop (i + 1)) = x.2.length + sumL (hs.drop (i + 1)) := by simp [sumL]
    rw [hsx] at h3 ⊢
    rw [l_law30_StoreAlone_4_s, cd, if_pos (by rw [List.length_map]; omega), nth_of hh, ob, ob, read_right N hN I.right, held_read I hxm, ob, cdn, if_pos rfl, nth_of ht, ob, ob, rsame_eq N (by omega) _ _ _ _ _ _ (tower_lens (I.holds x hxm).tow), ob, decide_eq_true rfl, Bool.not_true, cond_false, w64n (by omega), w64 (by simp only; omega) (by simp only; omega)]
    have e : ((c : Int) + ((x.2.length : Nat) : Int)) = ((c + x.2.length : Nat) : Int) := by omega
    simp only [e]
    rw [alone4 N hN n I hb k (i + 1) m (c + x.2.length) (by omega) (by omega) (by omega), Nat.add_assoc]
theorem alone5 (N : Nat) (hN : Fu + 9 ≤ N) (n cells : Int) {nn q : Nat} {g f : List Int} {ns : List Nd} {hs : List Held} {stale : List Hd} (I : SInv nn q g f ns hs stale) (hb : stale.length ≤ 1000000) : ∀ (k i m : Nat), i + k = stale.length → k < m →
    l_law30_StoreAlone_5 N m (n, cells, (i : Int), g, f, ns, stale) = some (.inl (n, cells, g, f, ns))
  | k, i, 0, h1, h2 => by omega
  | 0, i, m + 1, h1, h2 => by rw [l_law30_StoreAlone_5_s, cd, if_neg (by omega)]
  | k + 1, i, m + 1, h1, h2 => by
    obtain ⟨x, hx⟩ := get_at (xs := stale) (i := i) (by omega)
    obtain ⟨_, a, b⟩ := I.old x (List.mem_of_getElem? hx)
    have hg : goodB g f x.1 x.2 = false := by
      cases e : goodB g f x.1 x.2 with
      | false => rfl
      | true =>
        obtain ⟨_, _, _, c2, c3⟩ := goodB_iff.1 e
        exact absurd (b c2) c3
    rw [l_law30_StoreAlone_5_s, cd, if_pos (by omega), nth_of hx, ob, ob, read_right N hN I.right, read_stale I.right hg, ob, cdn, if_pos rfl, w64n (by omega)]
    exact alone5 N hN n cells I hb k (i + 1) m (by omega) (by omega)
theorem takenL_count {g f : List Int} (h : rightB g f = true) : (takenL g f).length + f.length = g.length := by
  have hf := (rightB_iff.1 h).2
  unfold takenL
  rw [if_pos h]
  have h1 := List.length_eq_countP_add_countP (fun c => decide (c ∈ f)) (l := upI g.length)
  rw [upI_len, List.countP_eq_length_filter, List.countP_eq_length_filter] at h1
  have hn : (upI g.length).Nodup := by
    unfold upI
    exact List.Pairwise.map _ (fun a b hab e => hab (Int.ofNat.inj e)) List.nodup_range
  have h2 : ((upI g.length).filter fun c => decide (c ∈ f)).length = f.length := by
    refine Nat.le_antisymm (nodup_sub (hn.filter _) fun x hx => by simpa using (List.mem_filter.1 hx).2) (nodup_sub hf.2 fun x hx => List.mem_filter.2 ⟨mem_upI.2 (hf.1 x hx), by simpa using hx⟩)
  have h3 : ((upI g.length).filter fun c => !decide (c ∈ f)).length = ((upI g.length).filter fun c => decide (¬ decide (c ∈ f) = true)).length := by
    congr 1
    refine List.filter_congr fun c _ => ?_
    by_cases q : c ∈ f <;> simp [q]
  omega
theorem make_inv (n : Nat) (h1 : 1 ≤ n) (h2 : n ≤ 1000) : smakeS (n : Int) = (0, List.replicate n 0, (upI n).reverse, List.replicate n (0, (0, []))) ∧ SInv n 0 (List.replicate n 0) (upI n).reverse (List.replicate n (0, (0, []))) [] [] := by
  have e : makeP (n : Int) = (0, List.replicate n 0, (upI n).reverse) := by
    unfold makeP
    rw [if_neg (by omega), Int.toNat_natCast]
  have hmem : ∀ c : Int, c ∈ (upI n).reverse ↔ 0 ≤ c ∧ c < n := fun c => by rw [List.mem_reverse, mem_upI]
  have hn : (upI n).Nodup := by
    unfold upI
    exact List.Pairwise.map _ (fun a b hab e => hab (Int.ofNat.inj e)) List.nodup_range
  have hb : rightB (List.replicate n 0) (upI n).reverse = true := by
    refine rightB_iff.2 ⟨⟨fun q => by have := congrArg List.length q; simp at this; omega, by simpa using h2, fun x hx => by rw [(List.mem_replicate.1 hx).2]; omega⟩, fun c hc => by simpa using (hmem c).1 hc, (List.reverse_perm _).nodup_iff.2 hn⟩
  have hin : ∀ (c : Nat) (x : Nd), (List.replicate n ((0 : Int), ((0 : Int), ([] : List Hd))))[c]? = some x → x = (0, (0, [])) ∧ (c : Int) ∈ (upI n).reverse := fun c x hx => by
    have hc : c < n := by have := (List.getElem?_eq_some_iff.1 hx).1; simpa using this
    rw [List.getElem?_replicate, if_pos hc] at hx
    exact ⟨(Option.some.inj hx).symm, (hmem _).2 ⟨by omega, by omega⟩⟩
  refine ⟨by unfold smakeS; rw [e]; simp only [if_true, Int.toNat_natCast], rightS_cells.2 ⟨hb, by simp, fun c x hx => ⟨fun _ => (hin c x hx).1, fun q => absurd (hin c x hx).2 q⟩⟩, by simp, by simp, by simp, fun c x hx hc => absurd (hin c x hx).2 hc, by simp [sumL, upI_len], fun c => ?_, by simp, by simp⟩
  simp only [List.getD_eq_getElem?_getD, List.getElem?_replicate]
  split <;> simp
theorem storeAlone (N : Nat) (hN : Fu + 14 ≤ N) (n : Int) (acts : List Ac) (hn0 : 0 ≤ n) (hn1 : n ≤ 255) (hR : ∀ a ∈ acts, ActR a) : m_law30_StoreAlone N (n, acts) = some true := by
  obtain ⟨N, rfl⟩ : ∃ n, N = n + 1 := ⟨N - 1, by omega⟩
  obtain ⟨kn, rfl⟩ : ∃ kn : Nat, n = (kn : Int) := ⟨n.toNat, by omega⟩
  have hm : kn % 60 < 60 := Nat.mod_lt _ (by omega)
  have ew : IntKind.wrap .i64 ((1 : Int) + Int.tmod (IntKind.wrap .i64 (kn : Int)) 60) = ((1 + kn % 60 : Nat) : Int) := by
    rw [w64 (x := (kn : Int)) (by omega) (by omega), show (60 : Int) = ((60 : Nat) : Int) from rfl, tmod_nat, w64 (by omega) (by omega)]; omega
  rw [m_law30_StoreAlone_eq, alive30 (by omega), ob]
  simp only [Bool.not_true, cond_false]
  rw [cd]
  by_cases hA : (20 : Int) < (acts.length : Int)
  · rw [if_pos hA]
  · obtain ⟨em, I⟩ := make_inv (1 + kn % 60) (by omega) (by omega)
    have hA' : acts.length ≤ 20 := by omega
    rw [if_neg hA, ew, smake_eq N (by omega), em, ob, cdn, if_pos rfl]
    simp only
    have hl := alone1 N (by omega) (kn : Int) acts hR hA' (1 + kn % 60) acts.length 0 N _ _ _ [] [] (by omega) (by have := Fu_eq; omega) I
    have e0 : ((0 : Nat) : Int) = 0 := rfl
    simp only [List.map_nil] at hl
    rw [e0] at hl
    rcases hl with hl | ⟨g', f', ns', hs', stale', hl, I'⟩
    · rw [hl, ob]
    · have hs := I'.sum
      obtain ⟨m1, m2⟩ := I'.many
      obtain ⟨r1, r2, r3, r4⟩ := right_lens I'.right
      rw [hl, ob]
      simp only
      have h4 := alone4 N (by omega) (kn : Int) I' (by omega) hs'.length 0 N 0 (by omega) (by have := Fu_eq; omega) (by simp only [List.drop_zero]; omega)
      rw [List.drop_zero, Nat.zero_add, e0] at h4
      rw [h4, ob]
      simp only
      have h5 := alone5 N (by omega) (kn : Int) ((sumL hs' : Nat) : Int) I' (by omega) stale'.length 0 N (by omega) (by have := Fu_eq; omega)
      rw [e0] at h5
      rw [h5, ob]
      simp only
      rw [right_right N (by omega) I'.right, ob, cond_true, ew, cd, if_pos (by rw [w64 (by omega) (by omega)]; omega), rtaken_eq N (by omega) _ _ (by omega) (by omega), ob]
      have hc := takenL_count (rightS_cells.1 I'.right).1
      have hlen := I'.len
      rw [decide_eq_true (by omega)]
end Go.Proofs.Ytdahghkmejnlgaa
end
section
set_option linter.unusedVariables false
set_option linter.unusedSimpArgs false
namespace Go.Proofs.Ytdahghkmejnlgaa.lawStoreAlone
open Go Go.ChangeShapes Go.WideShapes Go.ChangeAt Go.RowKit
theorem own : ownKnob Try.prog.godebug = none := by kernel_rfl
theorem lOut : laidOutB Try.prog = true := by kernel_rfl
theorem parOk : ∀ t ∈ Try.f6.params.toList, Try.prog.readableRec t = true ∧ t < Try.prog.types.size := by
  intro t ht
  rw [Try.params6] at ht
  simp at ht
  rcases ht with rfl | rfl
  all_goals exact ⟨by kernel_rfl, of_decide_eq_true (by kernel_rfl)⟩
theorem code0 : tyC Try.prog 9 5 (.i .u8) = true := by kernel_rfl
theorem code1 : tyC Try.prog 9 55 (.sl (.pr (.b) (.pr (.i .u8) (.pr (.sl (.i .i64)) (.pr (.sl (.i .i64)) (.sl (.sl (.i .i64)))))))) = true := by kernel_rfl
theorem agg0 : aggB Try.prog 5 = false := by kernel_rfl
theorem agg1 : aggB Try.prog 55 = false := by kernel_rfl
theorem res (N : Nat) : (c_law30_StoreAlone N).el true EV (fun e _ => some e) = some (.sc .b true) := by kernel_rfl
set_option maxRecDepth 100000 in
theorem contract (H : Type) (enc : TypeId × Value → H) (W : World) (base : Nat) (args : Array Value) (ds gs : List (DataW H)) (before : List MemPlace)
    (hval : ∀ (j : Nat) t v, Try.f6.params[j]? = some t → args[j]? = some v → Value.okWide Try.prog W .any base t v)
    (hW : DataW.Whole enc Try.prog Try.f6.params.toList Rows.storeAloneSpec.vars false W args.toList ds gs before) 
    (hz : (DataW.weightsEach Try.prog (Try.f6.params.toList ++ (OpenSpec.ofChange Rows.storeAloneSpec).bare.plain.varTypes Try.prog) (ds ++ gs)).all (· ≤ reachBytes) = true) :
    Calls Try.prog 6 args W fun e W' => ∃ v, e = .returned v ∧ Rows.storeAloneSpec.post enc Try.prog Try.f6 false true false false W args v W' := by
  have hW' := hW
  obtain ⟨p, q, hA0, hV, rfl, hfz, hnd⟩ := hW
  have hA : DataW.TrodAll enc Try.prog W 0 (fun _ => true) true Try.f6.params.toList args.toList ds p := hA0
  have hval2 := hval
  rw [Try.params6] at hA hval
  obtain ⟨v0, vs0, d0, ds0, p0, q0, hargs, rfl, rfl, h0, r0⟩ := trodAll_cons hA
  obtain ⟨v1, vs1, d1, ds1, p1, q1, rfl, rfl, rfl, h1, r1⟩ := trodAll_cons r0
  obtain ⟨rfl, rfl, rfl⟩ := trodAll_nil r1
  obtain rfl : args = #[v0, v1] := by cases args; simp_all
  obtain ⟨rfl, rfl⟩ := trodVars_none hV
  refine law_post lOut rfl parOk rfl Try.underlying4 hW' rfl ?_
  clear hW' hA0 hval2
  have hz' := hz
  rw [Try.params6] at hz'
  obtain ⟨y0, f0, z0, a0, b0⟩ := open_argz code0 (hval 0 5 v0 rfl rfl) h0
  replace z0 := z0 fun n hn => of_decide_eq_true (List.all_eq_true.1 hz' n (DataW.weights_mem_each (j := 0) rfl rfl n hn))
  obtain ⟨y1, f1, z1, a1, b1⟩ := open_argz code1 (hval 1 55 v1 rfl rfl) h1
  replace z1 := z1 fun n hn => of_decide_eq_true (List.all_eq_true.1 hz' n (DataW.weights_mem_each (j := 1) rfl rfl n hn))
  obtain ⟨N, hN⟩ : ∃ N, Fu + 20 ≤ N := ⟨_, Nat.le_refl _⟩
  have hm : m_law30_StoreAlone N (y0, y1) = some true := storeAlone N (by omega) _ _ (fits_u8 f0).1 (fits_u8 f0).2 (fun a h => ⟨fits_u8 (f1.2 a h).2.1, (f1.2 a h).2.2.1.1, (f1.2 a h).2.2.2.1.1, (f1.2 a h).2.2.2.2.1⟩)
  have hc := c_law30_StoreAlone_ok N
  have hr := res N
  unfold c_law30_StoreAlone at hc hr
  refine calls_of_ctr hc hm (fun b o u h => by obtain ⟨_, _, _, h, _⟩ := h; cases h) (vs := [v0, v1]) ?_ hr rfl
  · exact LR.cons (b0 agg0) (LR.cons (b1 agg1) (LR.nil))
noncomputable def witWorld (os : Os) : World := World.holding Try.prog os ⟨#[], #[], []⟩
theorem laid_met (os : Os) : laidMet Try.prog Rows.storeAloneRow.laid ((witWorld os).forCall (fun _ _ => 0) ⟨#[], #[.int .u8 0, .slice none 0 0], []⟩).memory := ⟨[], rfl, List.nodup_nil, fun _ _ h => by cases h⟩
theorem reads (os : Os) {H : Type} (enc : TypeId × Value → H) : ∃ places, DataW.whole enc Try.prog ((witWorld os).forCall (fun _ _ => 0) ⟨#[], #[.int .u8 0, .slice none 0 0], []⟩).memory Try.f6.params.toList Rows.storeAloneSpec.vars false (#[.int .u8 0, .slice none 0 0] : Array Value).toList 8 = some ([.lit (.int .u8 0), .nil], [], places) :=
  ⟨[], by kernel_rfl⟩
set_option maxRecDepth 100000 in
theorem lifted (os : Os) (started : os.Started) (H : Type) (enc : TypeId × Value → H) (F : Stop.Interp) :
    ReturnsInHanded {} Try.checked os 6 .any ((OpenSpec.ofChange Rows.storeAloneSpec).preRow enc Try.prog Try.f6 Rows.storeAloneRow.domain false Rows.storeAloneRow.laid) (((OpenSpec.ofChange Rows.storeAloneSpec).at F).post enc Try.prog Try.f6 false true false false) := by
  obtain ⟨places, hx⟩ := reads os enc
  refine returnsInHanded_of_row (C := Try.checked) (s := (OpenSpec.ofChange Rows.storeAloneSpec)) own started (by kernel_rfl) Try.func6
    (witness_row_at (enc := enc) (C := Try.checked) false (witWorld os) #[.int .u8 0, .slice none 0 0] rfl (by kernel_rfl) (by kernel_rfl) (by kernel_rfl)
      (OpenSpec.preRow_of_cond 8 hx (by kernel_rfl) (fun k hk => by cases hk) (by kernel_rfl) (laid_met os))) ?_
  intro W base args ds gs before hval hW _ hcond hz hL _ _
  exact contract H enc W base args ds gs before hval hW hz
theorem said : Rows.StoreAloneSaid :=
  OpenClaim.holds_of_cond 6 Try.f6 rfl rfl rfl rfl rfl rfl rfl ⟨rfl, rfl, rfl, rfl, rfl⟩ rfl rfl rfl rfl rfl (by kernel_rfl) Try.func6 (by kernel_rfl)
    (of_decide_eq_true (by kernel_rfl)) (by unfold Func.isWrapper; first | (rw [if_pos (by decide +kernel)]; kernel_rfl) | (rw [if_neg (by decide +kernel)]; exact ⟨rfl, rfl⟩))
    (fun os started H enc _ F => by rw [OpenClaim.pre_eq_preRow]; exact lifted os started H enc F)
end Go.Proofs.Ytdahghkmejnlgaa.lawStoreAlone
end
