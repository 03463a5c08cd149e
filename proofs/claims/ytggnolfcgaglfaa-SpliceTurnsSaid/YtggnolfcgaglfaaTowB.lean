/- Towers, built: what the program and the document compute, told plainly. -/
import Derived.Test.YtggnolfcgaglfaaTowA
set_option linter.unusedVariables false
set_option linter.unusedSimpArgs false
namespace Go.Proofs.Ytggnolfcgaglfaa
open Go Go.RowKit

/-! what a tower's links are -/
/-- from a start on, the first that is so; so many are looked at -/
def srch (p : Nat → Bool) : Nat → Nat → Nat
  | 0, k => k
  | f + 1, k => if p k then k else srch p f (k + 1)
theorem srch_ok (p : Nat → Bool) : ∀ (f k d : Nat), k ≤ d → d < k + f → p d = true → p (srch p f k) = true ∧ k ≤ srch p f k ∧ srch p f k ≤ d ∧ ∀ e, k ≤ e → e < srch p f k → p e = false
  | 0, k, d, h1, h2, h3 => by omega
  | f + 1, k, d, h1, h2, h3 => by
    simp only [srch]
    by_cases h : p k = true
    · rw [if_pos h]
      exact ⟨h, Nat.le_refl _, h1, fun e h4 h5 => by omega⟩
    · rw [if_neg h]
      have hk : k ≠ d := fun e => h (e ▸ h3)
      obtain ⟨a, b, c, e1⟩ := srch_ok p f (k + 1) d (by omega) (by omega) h3
      refine ⟨a, by omega, c, fun e h4 h5 => ?_⟩
      by_cases he : e = k
      · subst he; simpa using h
      · exact e1 e (by omega) h5
def hAt (hs : List Int) (j : Nat) : Int := hs.getD j 0
def dist (hs : List Int) (i h : Nat) : Nat := srch (fun d => decide ((h : Int) < hAt hs ((i + d) % hs.length))) hs.length 1
def linkOf (hs : List Int) (i h : Nat) : Int := (((i + dist hs i h) % hs.length : Nat) : Int)
def linksOf (hs : List Int) (i : Nat) : List Int := (List.range (hAt hs i).toNat).map (linkOf hs i)
def nextOf (hs : List Int) : List (List Int) := (List.range hs.length).map (linksOf hs)
def HighR (hs : List Int) : Prop := ∀ h ∈ hs, 1 ≤ h ∧ h ≤ 8
instance (hs : List Int) : Decidable (HighR hs) := by unfold HighR; exact inferInstance
def TowR (ts hs : List Int) : Prop := ts ≠ [] ∧ hs.length = ts.length ∧ RingR ts ∧ HighR hs
instance (ts hs : List Int) : Decidable (TowR ts hs) := by unfold TowR; exact inferInstance
def buildOf (ts hs : List Int) : Int × List Int × List Int × List (List Int) := if TowR ts hs then (0, ts, hs, nextOf hs) else (1, [], [], [])
theorem hAt_of {hs : List Int} {j : Nat} {x : Int} (h : hs[j]? = some x) : hAt hs j = x := by simp [hAt, h]
theorem hAt_get {hs : List Int} {j : Nat} (h : j < hs.length) : hs[j]? = some (hAt hs j) := by
  obtain ⟨x, hx⟩ := get_at h
  rw [hAt_of hx, hx]
theorem high_at {hs : List Int} (hh : HighR hs) {j : Nat} (h : j < hs.length) : 1 ≤ hAt hs j ∧ hAt hs j ≤ 8 := hh _ (List.mem_of_getElem? (hAt_get h))
theorem dist_ok {hs : List Int} {i h : Nat} (hi : i < hs.length) (hh : (h : Int) < hAt hs i) :
    (h : Int) < hAt hs ((i + dist hs i h) % hs.length) ∧ 1 ≤ dist hs i h ∧ dist hs i h ≤ hs.length ∧ ∀ e, 1 ≤ e → e < dist hs i h → ¬ (h : Int) < hAt hs ((i + e) % hs.length) := by
  have hd : (i + hs.length) % hs.length = i := by rw [Nat.add_mod_right, Nat.mod_eq_of_lt hi]
  obtain ⟨a, b, c, d⟩ := srch_ok (fun d => decide ((h : Int) < hAt hs ((i + d) % hs.length))) hs.length 1 hs.length (by omega) (by omega) (by simp only [hd]; simpa using hh)
  exact ⟨by simpa [dist] using a, b, c, fun e h1 h2 => by simpa using d e h1 h2⟩

/-! odd heights -/
theorem high_eq (N : Nat) (hN : Fu ≤ N) (h : Int) : m_tower_high N h = some (decide (1 ≤ h ∧ h ≤ 8)) := by
  obtain ⟨N, rfl⟩ : ∃ n, N = n + 1 := ⟨N - 1, by have := Fu_eq; omega⟩
  rw [m_tower_high_eq, cd]
  by_cases h1 : 1 ≤ h
  · rw [if_pos h1]; simp [h1]
  · rw [if_neg h1]; simp [h1]
theorem odd_eq (N : Nat) (hN : Fu + 1 ≤ N) (h : Int) : m_tower_BuildF1 N h = some (decide (¬ (1 ≤ h ∧ h ≤ 8))) := by
  obtain ⟨N, rfl⟩ : ∃ n, N = n + 1 := ⟨N - 1, by omega⟩
  rw [m_tower_BuildF1_eq, high_eq N (by omega), ob]
  congr 1
  by_cases hh : 1 ≤ h ∧ h ≤ 8 <;> simp [hh]
theorem oddf_loop (N : Nat) (hN : Fu + 1 ≤ N) (l : List Int) (hm : l.length ≤ 9223372036854775807) : ∀ (k i m : Nat), i + k = l.length → k < m →
    ∃ j : Nat, l_slices_IndexFunc_Lint_int_tower_BuildF1_1 N m (l, ((l.length : Nat) : Int), (i : Int)) = some (if HighR (l.drop i) then .inl () else .inr (j : Int))
  | k, i, 0, h1, h2 => by omega
  | 0, i, m + 1, h1, h2 => by
    refine ⟨0, ?_⟩
    rw [l_slices_IndexFunc_Lint_int_tower_BuildF1_1_s, cd, if_neg (by omega), List.drop_eq_nil_of_le (by omega), if_pos (by intro t h; cases h)]
  | k + 1, i, m + 1, h1, h2 => by
    obtain ⟨x, hx⟩ := get_at (xs := l) (i := i) (by omega)
    obtain ⟨j, ih⟩ := oddf_loop N hN l hm k (i + 1) m (by omega) (by omega)
    rw [l_slices_IndexFunc_Lint_int_tower_BuildF1_1_s, cd, if_pos (by omega), nth_of hx, ob, odd_eq N hN x, ob, cd, w64n (by omega), ih, drop_at hx]
    by_cases h : 1 ≤ x ∧ x ≤ 8
    · refine ⟨j, ?_⟩
      rw [if_neg (fun e => e h)]
      have : HighR (x :: l.drop (i + 1)) ↔ HighR (l.drop (i + 1)) := ⟨fun e t ht => e t (by simp [ht]), fun e t ht => by
        rcases List.mem_cons.1 ht with rfl | ht
        · exact h
        · exact e t ht⟩
      by_cases h3 : HighR (l.drop (i + 1))
      · rw [if_pos h3, if_pos (this.2 h3)]
      · rw [if_neg h3, if_neg (fun e => h3 (this.1 e))]
    · refine ⟨i, ?_⟩
      rw [if_pos h, if_neg (fun e => h (e x (by simp)))]
theorem oddf_eq (N : Nat) (hN : Fu + 3 ≤ N) (l : List Int) (hm : l.length ≤ 9223372036854775807) : m_slices_ContainsFunc_Lint_int_tower_BuildF1 N l = some (!decide (HighR l)) := by
  obtain ⟨N, rfl⟩ : ∃ n, N = n + 2 := ⟨N - 2, by omega⟩
  rw [m_slices_ContainsFunc_Lint_int_tower_BuildF1_eq, m_slices_IndexFunc_Lint_int_tower_BuildF1_eq]
  obtain ⟨j, h⟩ := oddf_loop N (by omega) l hm l.length 0 N (by omega) (by have := Fu_eq; omega)
  rw [show ((0 : Int) = ((0 : Nat) : Int)) from rfl, h, List.drop_zero]
  by_cases hT : HighR l <;> simp [ob, hT]

/-! twice round, from the last one back -/
/-- the place that is come by k-th -/
def plc (n k : Nat) : Nat := n - 1 - k % n
def lastV (hs : List Int) : Nat → Nat → Int
  | 0, _ => 0
  | k + 1, h => if (h : Int) < hAt hs (plc hs.length k) then (plc hs.length k : Nat) else lastV hs k h
def behL (hs : List Int) (k : Nat) : List Int := (List.range 8).map (lastV hs k)
def rowL (hs : List Int) (i : Nat) : List Int := (List.range (hAt hs i).toNat).map (lastV hs (2 * hs.length - 1 - i))
def nxL (hs : List Int) (k : Nat) : List (List Int) := (List.range hs.length).map fun i => if 2 * hs.length ≤ k + i then rowL hs i else []
theorem lastV_unroll (hs : List Int) (h : Nat) : ∀ (d k : Nat), 1 ≤ d → d ≤ k → (h : Int) < hAt hs (plc hs.length (k - d)) → (∀ e, 1 ≤ e → e < d → ¬ (h : Int) < hAt hs (plc hs.length (k - e))) → lastV hs k h = ((plc hs.length (k - d) : Nat) : Int)
  | d, 0, h1, h2, _, _ => by omega
  | d, k + 1, h1, h2, h3, h4 => by
    simp only [lastV]
    by_cases hd : d = 1
    · subst hd
      rw [Nat.add_sub_cancel] at h3 ⊢
      rw [if_pos h3]
    · have h5 := h4 1 (by omega) (by omega)
      rw [Nat.add_sub_cancel] at h5
      rw [if_neg h5]
      have := lastV_unroll hs h (d - 1) k (by omega) (by omega) (by rw [show k - (d - 1) = k + 1 - d by omega]; exact h3) (fun e e1 e2 => by
        have := h4 (e + 1) (by omega) (by omega)
        rw [show k + 1 - (e + 1) = k - e by omega] at this
        exact this)
      rw [this, show k - (d - 1) = k + 1 - d by omega]
theorem plc_back {n i d : Nat} (hn : 0 < n) (hi : i < n) (hd : d ≤ n) : plc n (2 * n - 1 - i - d) = (i + d) % n := by
  unfold plc
  by_cases h : i + d < n
  · rw [Nat.mod_eq_of_lt h, show 2 * n - 1 - i - d = (n - 1 - i - d) + n by omega, Nat.add_mod_right, Nat.mod_eq_of_lt (by omega)]
    omega
  · rw [show i + d = (i + d - n) + n by omega, Nat.add_mod_right, Nat.mod_eq_of_lt (a := i + d - n) (by omega), Nat.mod_eq_of_lt (by omega)]
    omega
theorem row_links {hs : List Int} {i : Nat} (hi : i < hs.length) : rowL hs i = linksOf hs i := by
  unfold rowL linksOf
  refine List.map_congr_left fun h hh => ?_
  have hh := List.mem_range.1 hh
  have hlt : (h : Int) < hAt hs i := by omega
  obtain ⟨a, b, c, d⟩ := dist_ok hi hlt
  have e : ∀ x, x ≤ hs.length → plc hs.length (2 * hs.length - 1 - i - x) = (i + x) % hs.length := fun x hx => plc_back (by omega) hi hx
  rw [lastV_unroll hs h (dist hs i h) (2 * hs.length - 1 - i) b (by omega) (by rw [e _ c]; exact a) (fun x h1 h2 => by rw [e x (by omega)]; exact d x h1 h2), e _ c]
  rfl
theorem nxL_all (hs : List Int) : nxL hs (2 * hs.length) = nextOf hs := by
  unfold nxL nextOf
  refine List.map_congr_left fun i hi => ?_
  rw [if_pos (by omega), row_links (List.mem_range.1 hi)]
theorem nxL_zero (hs : List Int) (k : Nat) (hk : k ≤ hs.length) : nxL hs k = List.replicate hs.length [] := by
  unfold nxL
  refine List.eq_replicate_iff.2 ⟨by simp, fun x hx => ?_⟩
  obtain ⟨i, hi, rfl⟩ := List.mem_map.1 hx
  have := List.mem_range.1 hi
  rw [if_neg (by omega)]
theorem set_map {α : Type} (n i : Nat) (f : Nat → α) (x : α) : List.set ((List.range n).map f) i x = (List.range n).map fun j => if j = i then x else f j := by
  refine List.ext_getElem? fun j => ?_
  rw [List.getElem?_set, List.getElem?_map, List.length_map, List.length_range, List.getElem?_map]
  by_cases hj : j < n
  · rw [List.getElem?_range hj]
    by_cases h : i = j
    · subst h; simp [hj]
    · have h' : ¬ j = i := fun e => h e.symm
      simp [h, h']
  · have hnone : (List.range n)[j]? = none := List.getElem?_eq_none (by simpa using hj)
    rw [hnone]
    by_cases h : i = j
    · subst h; simp [hj]
    · simp [h]
theorem map_get {α : Type} (n i : Nat) (f : Nat → α) (h : i < n) : ((List.range n).map f)[i]? = some (f i) := by
  rw [List.getElem?_map, List.getElem?_range h]; rfl
theorem b3 (N : Nat) (hs t3 t4 : List Int) (nx : List (List Int)) (n v42 v43 i : Int) (H : Nat) (hH : H ≤ 8) : ∀ (k h m : Nat) (f : Nat → Int), h + k = H → k < m →
    l_tower_Build_3 N m (hs, n, i, v42, v43, (H : Int), (h : Int), (List.range 8).map f, t3, t4, nx) = some (hs, n, v42, v43, (List.range 8).map (fun j => if h ≤ j ∧ j < H then i else f j), t3, t4, nx)
  | k, h, 0, f, h1, h2 => by omega
  | 0, h, m + 1, f, h1, h2 => by
    rw [l_tower_Build_3_s, cd, if_neg (by omega)]
    have : (List.range 8).map (fun j => if h ≤ j ∧ j < H then i else f j) = (List.range 8).map f := List.map_congr_left fun j _ => if_neg (by omega)
    rw [this]
  | k + 1, h, m + 1, f, h1, h2 => by
    have hg := map_get 8 h f (by omega)
    rw [l_tower_Build_3_s, cd, if_pos (by omega), nth_of (x := h) (List.getElem?_range (by omega)), ob, nth_of hg, ob, ob, w64n (by omega), Int.toNat_natCast, set_map, b3 N hs t3 t4 nx n v42 v43 i H hH k (h + 1) m _ (by omega) (by omega)]
    have : (List.range 8).map (fun j => if h + 1 ≤ j ∧ j < H then i else if j = h then i else f j) = (List.range 8).map (fun j => if h ≤ j ∧ j < H then i else f j) := List.map_congr_left fun j _ => by
      by_cases e1 : j = h
      · subst e1
        rw [if_neg (by omega), if_pos rfl, if_pos (by omega)]
      · by_cases e2 : h + 1 ≤ j ∧ j < H
        · rw [if_pos e2, if_pos (by omega)]
        · rw [if_neg e2, if_neg e1, if_neg (by omega)]
    rw [this]
theorem b2 (N m : Nat) (hN : Fu + 1 ≤ N) (hs t3 t4 : List Int) (n k i H : Nat) (v42 v43 : Int) (f : Nat → Int) (g : Nat → List Int) (hn : n = hs.length) (hi : i < n) (hH : hAt hs i = (H : Int)) (h8 : H ≤ 8) :
    l_tower_Build_2 N (m + 1) (hs, (n : Int), (k : Int), (i : Int), v42, v43, (List.range 8).map f, t3, t4, (List.range n).map g) =
      some (hs, (n : Int), (i : Int), v42, v43, (List.range 8).map f, t3, t4, (List.range n).map fun j => if n ≤ k ∧ j = i then (List.range H).map f else g j) := by
  rw [l_tower_Build_2_s, cd]
  by_cases hk : n ≤ k
  · have hx := hAt_get (hs := hs) (j := i) (by omega)
    rw [hH] at hx
    rw [if_pos (by omega), nth_of hx, ob, sub_of (by omega) (by omega) (by rw [List.length_replicate]; omega), ob]
    have e1 : (Nat.ble ((Int.toNat (0 : Int)) + (Int.toNat ((H : Int) - (0 : Int)))) (List.length ((List.range 8).map f)) && true) = true := by
      rw [Bool.and_true]
      rw [Nat.ble_eq]
      simp only [List.length_map, List.length_range]; omega
    rw [e1, cond_true]
    have e2 : List.take (Int.toNat ((H : Int) - 0)) (List.drop (Int.toNat 0) ((List.range 8).map f)) = (List.range H).map f := by
      rw [show Int.toNat 0 = 0 from rfl, List.drop_zero, ← List.map_take, List.take_range, show ((H : Int) - 0).toNat = H by omega, Nat.min_eq_left h8]
    rw [e2, clone_eq N hN _ (by simp; omega), ob, nth_of (map_get n i g hi), ob, ob, Int.toNat_natCast, set_map]
    congr 1
    have : (List.range n).map (fun j => if j = i then (List.range H).map f else g j) = (List.range n).map (fun j => if n ≤ k ∧ j = i then (List.range H).map f else g j) := List.map_congr_left fun j _ => by
      by_cases e : j = i
      · rw [if_pos e, if_pos ⟨hk, e⟩]
      · rw [if_neg e, if_neg (fun h => e h.2)]
    rw [this]
  · rw [if_neg (by omega)]
    have : (List.range n).map (fun j => if n ≤ k ∧ j = i then (List.range H).map f else g j) = (List.range n).map g := List.map_congr_left fun j _ => if_neg (fun h => hk h.1)
    rw [this]
theorem b1 (N : Nat) (hN : Fu + 1 ≤ N) (hs t3 t4 : List Int) (hh : HighR hs) (h1000 : hs.length ≤ 1000) : ∀ (j k m : Nat), k + j = 2 * hs.length → j < m →
    l_tower_Build_1 N m (hs, ((hs.length : Nat) : Int), ((2 * hs.length : Nat) : Int), (k : Int), behL hs k, t3, t4, nxL hs k) = some (t3, t4, nxL hs (2 * hs.length))
  | j, k, 0, h1, h2 => by omega
  | 0, k, m + 1, h1, h2 => by
    rw [l_tower_Build_1_s, cd, if_neg (by omega)]
    have : k = 2 * hs.length := by omega
    rw [this]
  | j + 1, k, m + 1, h1, h2 => by
    have hn : 0 < hs.length := by omega
    have hml := Nat.mod_lt k hn
    have hp : plc hs.length k < hs.length := by unfold plc; omega
    have hpe : IntKind.wrap .i64 (IntKind.wrap .i64 (((hs.length : Nat) : Int) - 1) - ((k % hs.length : Nat) : Int)) = ((plc hs.length k : Nat) : Int) := by
      rw [w64 (x := ((hs.length : Nat) : Int) - 1) (by omega) (by omega), w64 (by omega) (by omega)]
      unfold plc; omega
    obtain ⟨M, hM⟩ : ∃ M, N = M + 1 := ⟨N - 1, by omega⟩
    have hb := high_at hh hp
    obtain ⟨H, hH⟩ : ∃ H : Nat, hAt hs (plc hs.length k) = (H : Int) := ⟨_, (Int.toNat_of_nonneg (by omega)).symm⟩
    have h8 : H ≤ 8 := by omega
    have e2 := b2 N M hN hs t3 t4 hs.length k (plc hs.length k) H ((2 * hs.length : Nat) : Int) (k : Int) (lastV hs k) (fun i => if 2 * hs.length ≤ k + i then rowL hs i else []) rfl hp hH h8
    rw [← hM] at e2
    have hx := hAt_get hp
    rw [hH] at hx
    rw [l_tower_Build_1_s, cd, if_pos (by omega), rem_of (by omega), ob, tmod_nat, hpe]
    unfold behL
    rw [show nxL hs k = (List.range hs.length).map (fun i => if 2 * hs.length ≤ k + i then rowL hs i else []) from rfl, e2, ob]
    simp only
    rw [nth_of hx, ob, show ((0 : Int) = ((0 : Nat) : Int)) from rfl, b3 N hs t3 t4 _ _ _ _ _ H h8 H 0 N (lastV hs k) (by omega) (by have := Fu_eq; omega), ob]
    simp only
    rw [w64n (by omega)]
    have ea : (List.range 8).map (fun j => if 0 ≤ j ∧ j < H then ((plc hs.length k : Nat) : Int) else lastV hs k j) = behL hs (k + 1) := List.map_congr_left fun j _ => by
      simp only [lastV, hH]
      by_cases e : j < H
      · rw [if_pos ⟨Nat.zero_le _, e⟩, if_pos (by omega)]
      · rw [if_neg (fun h => e h.2), if_neg (by omega)]
    have eb : (List.range hs.length).map (fun j => if hs.length ≤ k ∧ j = plc hs.length k then (List.range H).map (lastV hs k) else if 2 * hs.length ≤ k + j then rowL hs j else []) = nxL hs (k + 1) := List.map_congr_left fun j hj => by
      have hj := List.mem_range.1 hj
      by_cases e : hs.length ≤ k ∧ j = plc hs.length k
      · obtain ⟨e1, rfl⟩ := e
        have e3 : k % hs.length = k - hs.length := by
          rw [Nat.mod_eq_sub_mod e1, Nat.mod_eq_of_lt (by omega)]
        have e4 : k = 2 * hs.length - 1 - plc hs.length k := by unfold plc; omega
        rw [if_pos ⟨e1, rfl⟩, if_pos (by omega)]
        unfold rowL
        rw [hH, Int.toNat_natCast, ← e4]
      · rw [if_neg e]
        by_cases e5 : 2 * hs.length ≤ k + j
        · rw [if_pos e5, if_pos (by omega)]
        · rw [if_neg e5, if_neg]
          intro e6
          refine e ⟨by omega, ?_⟩
          have e1 : hs.length ≤ k := by omega
          have e3 : k % hs.length = k - hs.length := by
            rw [Nat.mod_eq_sub_mod e1, Nat.mod_eq_of_lt (by omega)]
          unfold plc; omega
    rw [ea, eb]
    exact b1 N hN hs t3 t4 hh h1000 j (k + 1) m (by omega) (by omega)
theorem build_eq (N : Nat) (hN : Fu + 5 ≤ N) (ts hs : List Int) (h1 : ts.length ≤ 9223372036854775807) (h2 : hs.length ≤ 9223372036854775807) : m_tower_Build N (ts, hs) = some (buildOf ts hs) := by
  obtain ⟨N, rfl⟩ : ∃ n, N = n + 1 := ⟨N - 1, by omega⟩
  unfold buildOf
  rw [m_tower_Build_eq, cd]
  by_cases c0 : ts = []
  · subst c0; simp [TowR]
  have c0' : ¬ ts.length = 0 := fun e => c0 (List.length_eq_zero_iff.1 e)
  rw [if_neg (by omega), cdn]
  by_cases c1 : hs.length ≠ ts.length
  · rw [if_neg (by omega), if_neg (fun h => c1 h.2.1)]
  have c1 := Decidable.not_not.1 c1
  rw [if_pos (by omega), ring_eq N (by omega) ts h1, ob]
  by_cases c2 : ¬ RingR ts
  · rw [if_neg (fun h => c2 h.2.2.1)]
    simp [c2]
  have c2 := Decidable.not_not.1 c2
  rw [oddf_eq N (by omega) hs h2]
  by_cases c3 : ¬ HighR hs
  · rw [if_neg (fun h => c3 h.2.2.2)]
    simp [c2, c3, ob]
  have c3 := Decidable.not_not.1 c3
  have hlen := c2.1
  rw [if_pos ⟨c0, c1, c2, c3⟩, clone_eq N (by omega) ts (by omega), clone_eq N (by omega) hs (by omega), mak_of (by omega) (by omega) (by omega)]
  simp only [c2, c3, decide_true, Bool.not_true, cond_false, ob]
  have := b1 N (by omega) hs ts hs c3 (by omega) (2 * hs.length) 0 N (by omega) (by have := Fu_eq; omega)
  rw [nxL_zero hs 0 (by omega), show behL hs 0 = List.replicate 8 0 from rfl, nxL_all] at this
  rw [← c1, Int.toNat_natCast, w64 (x := 2 * ((hs.length : Nat) : Int)) (by omega) (by omega)]
  rw [show ((0 : Nat) : Int) = 0 from rfl, show ((2 * hs.length : Nat) : Int) = 2 * ((hs.length : Nat) : Int) by omega] at this
  rw [this]
  rfl
end Go.Proofs.Ytggnolfcgaglfaa
