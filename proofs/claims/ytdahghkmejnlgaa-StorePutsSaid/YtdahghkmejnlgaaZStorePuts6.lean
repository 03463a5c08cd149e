/- StorePuts: the seat's texts as one (6 of 6; printed by wip/prune.py). -/
import Derived.Test.YtdahghkmejnlgaaZStorePuts5
section
set_option linter.unusedVariables false
set_option linter.unusedSimpArgs false
namespace Go.Proofs.Ytdahghkmejnlgaa
open Go Go.RowKit
/-- so many cells, taken one after the other -/
def takeN : Nat → List Int → List Int → Int × List Int × List Int × List Hd
  | 0, g, f => (0, g, f, [])
  | k + 1, g, f =>
    if (takeP g f).1 = 0 then
      if (takeN k (takeP g f).2.1 (takeP g f).2.2.1).1 = 0 then (0, (takeN k (takeP g f).2.1 (takeP g f).2.2.1).2.1, (takeN k (takeP g f).2.1 (takeP g f).2.2.1).2.2.1, (takeP g f).2.2.2 :: (takeN k (takeP g f).2.1 (takeP g f).2.2.1).2.2.2)
      else ((takeN k (takeP g f).2.1 (takeP g f).2.2.1).1, (takeN k (takeP g f).2.1 (takeP g f).2.2.1).2.1, (takeN k (takeP g f).2.1 (takeP g f).2.2.1).2.2.1, [])
    else ((takeP g f).1, (takeP g f).2.1, (takeP g f).2.2.1, [])
theorem takeN_s {k : Nat} {g f : List Int} (h1 : (takeP g f).1 = 0) (h2 : (takeN k (takeP g f).2.1 (takeP g f).2.2.1).1 = 0) : takeN (k + 1) g f = (0, (takeN k (takeP g f).2.1 (takeP g f).2.2.1).2.1, (takeN k (takeP g f).2.1 (takeP g f).2.2.1).2.2.1, (takeP g f).2.2.2 :: (takeN k (takeP g f).2.1 (takeP g f).2.2.1).2.2.2) := by
  rw [takeN, if_pos h1, if_pos h2]
theorem takeN_l {k : Nat} {g f : List Int} (h1 : (takeP g f).1 = 0) (h2 : ¬ (takeN k (takeP g f).2.1 (takeP g f).2.2.1).1 = 0) : takeN (k + 1) g f = ((takeN k (takeP g f).2.1 (takeP g f).2.2.1).1, (takeN k (takeP g f).2.1 (takeP g f).2.2.1).2.1, (takeN k (takeP g f).2.1 (takeP g f).2.2.1).2.2.1, []) := by
  rw [takeN, if_pos h1, if_neg h2]
theorem takeN_f {k : Nat} {g f : List Int} (h1 : ¬ (takeP g f).1 = 0) : takeN (k + 1) g f = ((takeP g f).1, (takeP g f).2.1, (takeP g f).2.2.1, []) := by
  rw [takeN, if_neg h1]
theorem taken_loop (N : Nat) (hN : Fu + 3 ≤ N) (n : Nat) (hn : n ≤ 1000) : ∀ (k i m : Nat) (g f : List Int) (l : List Hd), i + k = n → k < m → l.length ≤ i → g.length ≤ 9223372036854775807 → f.length ≤ 9223372036854775807 →
    l_store_taken_1 N m ((n : Int), (i : Int), g, f, l) = some (if (takeN k g f).1 = 0 then .inl ((takeN k g f).2.1, (takeN k g f).2.2.1, l ++ (takeN k g f).2.2.2) else .inr ((takeN k g f).1, (takeN k g f).2.1, (takeN k g f).2.2.1))
  | k, i, 0, g, f, l, h1, h2, _, _, _ => by omega
  | 0, i, m + 1, g, f, l, h1, h2, _, _, _ => by rw [l_store_taken_1_s, cd, if_neg (by omega)]; simp [takeN]
  | k + 1, i, m + 1, g, f, l, h1, h2, h3, hg, hf => by
    obtain ⟨l1, l2⟩ := takeP_len g f
    rw [l_store_taken_1_s, cd, if_pos (by omega), take_eq N hN g f hg hf, ob, cdn]
    by_cases h0 : (takeP g f).1 = 0
    · rw [if_pos h0, app_of (by omega) (by simp; omega), ob, w64n (by omega), taken_loop N hN n hn k (i + 1) m _ _ _ (by omega) (by omega) (by simp; omega) (by omega) (by omega)]
      by_cases h4 : (takeN k (takeP g f).2.1 (takeP g f).2.2.1).1 = 0
      · rw [if_pos h4, takeN_s h0 h4, if_pos rfl]; simp
      · rw [if_neg h4, takeN_l h0 h4, if_neg h4]
    · rw [if_neg h0, takeN_f h0, if_neg h0]
theorem taken_neq (N : Nat) (hN : Fu + 4 ≤ N) (n : Nat) (hn : n ≤ 1000) (g f : List Int) (hg : g.length ≤ 9223372036854775807) (hf : f.length ≤ 9223372036854775807) : ∃ r, m_store_taken N (g, f, (n : Int)) = some r ∧ r.1 = (takeN n g f).1 ∧ (r.1 = 0 → r = takeN n g f) := by
  obtain ⟨N, rfl⟩ : ∃ n, N = n + 1 := ⟨N - 1, by omega⟩
  rw [m_store_taken_eq, show ((0 : Int) = ((0 : Nat) : Int)) from rfl, taken_loop N (by omega) n hn n 0 N g f [] (by omega) (by have := Fu_eq; omega) (by simp) hg hf, ob]
  by_cases h : (takeN n g f).1 = 0
  · rw [if_pos h]
    refine ⟨_, rfl, h.symm, fun _ => ?_⟩
    simp only [List.nil_append]
    exact Prod.ext h.symm rfl
  · rw [if_neg h]
    exact ⟨_, rfl, rfl, fun q => absurd q h⟩
theorem rput1_loop (N : Nat) (hN : Fu + 3 ≤ N) (s s2 : List Int) (s3 : List Nd) (t t2 : List Int) (t3 : List (List Int)) (v5 v52 : Int) (hn : t.length ≤ 1000) : ∀ (k i m : Nat) (g f : List Int) (l : List Hd), i + k = t.length → k < m → l.length ≤ i → g.length ≤ 9223372036854775807 → f.length ≤ 9223372036854775807 →
    l_ref30_Put_1 N m ((i : Int), s, s2, s3, t, t2, t3, v5, v52, g, f, l) = some (if (takeN k g f).1 = 0 then .inl (s, s2, s3, t, t2, t3, v5, v52, (takeN k g f).2.1, (takeN k g f).2.2.1, l ++ (takeN k g f).2.2.2) else .inr ((takeN k g f).1, s, s2, s3, 0, 0))
  | k, i, 0, g, f, l, h1, h2, _, _, _ => by omega
  | 0, i, m + 1, g, f, l, h1, h2, _, _, _ => by rw [l_ref30_Put_1_s, cd, if_neg (by omega)]; simp [takeN]
  | k + 1, i, m + 1, g, f, l, h1, h2, h3, hg, hf => by
    obtain ⟨l1, l2⟩ := takeP_len g f
    rw [l_ref30_Put_1_s, cd, if_pos (by omega), rtake_eq N hN g f hg hf, ob, cdn]
    by_cases h0 : (takeP g f).1 = 0
    · rw [if_pos h0, app_of (by omega) (by simp; omega), ob, w64n (by omega), rput1_loop N hN s s2 s3 t t2 t3 v5 v52 hn k (i + 1) m _ _ _ (by omega) (by omega) (by simp; omega) (by omega) (by omega)]
      by_cases h4 : (takeN k (takeP g f).2.1 (takeP g f).2.2.1).1 = 0
      · rw [if_pos h4, takeN_s h0 h4, if_pos rfl]; simp
      · rw [if_neg h4, takeN_l h0 h4, if_neg h4]
    · rw [if_neg h0, takeN_f h0, if_neg h0]
structure TakeOk (k : Nat) (g f : List Int) (r : Int × List Int × List Int × List Hd) : Prop where
  len : r.2.2.2.length = k
  free : f = r.2.2.1 ++ (r.2.2.2.map (·.1)).reverse
  gens : r.2.1.length = g.length
  same : ∀ c : Nat, (c : Int) ∉ r.2.2.2.map (·.1) → r.2.1.getD c 0 = g.getD c 0
  cell : ∀ h ∈ r.2.2.2, 0 ≤ h.1 ∧ h.1 < g.length ∧ r.2.1.getD h.1.toNat 0 = h.2 ∧ h.2 = g.getD h.1.toNat 0 + 1
  right : rightB r.2.1 r.2.2.1 = true
theorem getD_set_ne {l : List Int} {c d : Nat} {x : Int} (h : c ≠ d) : (l.set c x).getD d 0 = l.getD d 0 := by
  simp [List.getD, List.getElem?_set_ne h]
theorem takeN_ok : ∀ (k : Nat) {g f : List Int}, rightB g f = true → (takeN k g f).1 = 0 → TakeOk k g f (takeN k g f)
  | 0, g, f, h, _ => ⟨rfl, by simp [takeN], rfl, fun _ _ => rfl, by simp [takeN], h⟩
  | k + 1, g, f, h, h0 => by
    by_cases h1 : (takeP g f).1 = 0
    · by_cases h2 : (takeN k (takeP g f).2.1 (takeP g f).2.2.1).1 = 0
      · rw [takeN_s h1 h2]
        have h3 : ∃ c, f.getLast? = some c ∧ g.getD c.toNat 0 ≠ 1073741824 := by
          unfold takeP at h1
          rw [if_pos h] at h1
          split at h1
          · cases h1
          · rename_i c hc
            split at h1
            · cases h1
            · exact ⟨c, hc, by assumption⟩
        obtain ⟨c, hc, hcg⟩ := h3
        obtain ⟨e, c0, c1, cn, hr⟩ := takeP_ok h hc hcg
        have ih := takeN_ok k (g := (takeP g f).2.1) (f := (takeP g f).2.2.1) (by rw [e]; exact hr) h2
        rw [e] at ih ⊢
        simp only at ih ⊢
        have hf := dropLast_last hc
        have hct : ((c.toNat : Nat) : Int) = c := by omega
        have hnl : c ∉ (takeN k (g.set c.toNat (g.getD c.toNat 0 + 1)) f.dropLast).2.2.2.map (·.1) := fun hm => cn (by rw [ih.free]; simp only [List.mem_append, List.mem_reverse]; exact .inr hm)
        refine ⟨by rw [List.length_cons, ih.len], ?_, by rw [ih.gens, List.length_set], fun d hd => ?_, fun x hx => ?_, ih.right⟩
        · simp only [List.map_cons, List.reverse_cons]
          rw [← List.append_assoc, ← ih.free]; exact hf
        · simp only [List.map_cons, List.mem_cons, not_or] at hd
          rw [ih.same d hd.2, getD_set_ne (by omega)]
        · rcases List.mem_cons.1 hx with rfl | hx
          · refine ⟨c0, c1, ?_, rfl⟩
            have := ih.same c.toNat (by rw [hct]; exact hnl)
            rw [this, getD_set (by omega)]
          · obtain ⟨a, b, p, q⟩ := ih.cell x hx
            rw [List.length_set] at b
            refine ⟨a, b, p, ?_⟩
            have : x.1 ≠ c := fun e => by
              have q : x.1 ∈ (takeN k (g.set c.toNat (g.getD c.toNat 0 + 1)) f.dropLast).2.2.2.map (·.1) := List.mem_map_of_mem hx
              rw [e] at q
              exact hnl q
            rw [q, getD_set_ne (by omega)]
      · rw [takeN_l h1 h2] at h0; exact absurd h0 h2
    · rw [takeN_f h1] at h0; exact absurd h0 h1
def toH (l : List Hd) (j : Int) : Hd := l.getD j.toNat (0, 0)
def nodeK (l : List Hd) (t t2 : List Int) (t3 : List (List Int)) (k : Nat) : Nd := (t.getD k 0, (t2.getD k 0, (t3.getD k []).map (toH l)))
def wrK (l : List Hd) (t t2 : List Int) (t3 : List (List Int)) (ns : List Nd) : Nat → List Nd
  | 0 => ns
  | k + 1 => (wrK l t t2 t3 ns k).set (l.getD k (0, 0)).1.toNat (nodeK l t t2 t3 k)
theorem wrK_len (l : List Hd) (t t2 : List Int) (t3 : List (List Int)) (ns : List Nd) : ∀ k, (wrK l t t2 t3 ns k).length = ns.length
  | 0 => rfl
  | k + 1 => by rw [wrK, List.length_set, wrK_len l t t2 t3 ns k]
theorem toH_of {l : List Hd} {j : Int} (h0 : 0 ≤ j) (h1 : j < l.length) : nthI l j = some (toH l j) := by
  obtain ⟨x, hx, hn⟩ := nth_ex h0 h1
  rw [hn]; simp [toH, List.getD, hx]
/-- rows of places -/
def RowsR (n : Nat) (t3 : List (List Int)) : Prop := t3.length = n ∧ ∀ row ∈ t3, row.length ≤ 8 ∧ ∀ j ∈ row, 0 ≤ j ∧ j < n
theorem link_range {hs : List Int} {i h : Nat} (hn : 0 < hs.length) : 0 ≤ linkOf hs i h ∧ linkOf hs i h < hs.length := by
  unfold linkOf
  have := Nat.mod_lt (i + dist hs i h) hn
  omega
theorem tower_rows {t t2 : List Int} {t3 : List (List Int)} (h : TowerR t t2 t3) : t2.length = t.length ∧ RowsR t.length t3 ∧ t.length ≤ 1000 ∧ t ≠ [] ∧ t.Nodup := by
  obtain ⟨⟨h1, h2, h3, h4⟩, rfl⟩ := h
  refine ⟨h2, ⟨by simp [nextOf, h2], fun row hrow => ⟨next_len h4 hrow, fun j hj => ?_⟩⟩, h3.1, h1, h3.2.2⟩
  have h0 : 0 < t2.length := by rw [h2]; exact List.length_pos_iff.2 h1
  simp only [nextOf, List.mem_map, List.mem_range] at hrow
  obtain ⟨i, _, rfl⟩ := hrow
  simp only [linksOf, List.mem_map] at hj
  obtain ⟨q, _, rfl⟩ := hj
  rw [← h2]; exact link_range h0
theorem put2_loop (N : Nat) (v45 v46 : Int) (t t2 : List Int) (t3 : List (List Int)) (v5 v52 : Int) (p p2 : List Int) (l : List Hd) (nodes : List Nd) (a b x x2 : Int) (row : List Int) (hr : row.length ≤ 8) (hj : ∀ j ∈ row, 0 ≤ j ∧ j < l.length) : ∀ (k i m : Nat) (acc : List Hd), i + k = row.length → k < m → acc.length ≤ i →
    l_store_Put_2 N m (v45, v46, row, (row.length : Int), (i : Int), t, t2, t3, v5, v52, p, p2, l, nodes, a, b, x, x2, acc) = some (v45, v46, t, t2, t3, v5, v52, p, p2, l, nodes, a, b, x, x2, acc ++ (row.drop i).map (toH l))
  | k, i, 0, acc, h1, h2, _ => by omega
  | 0, i, m + 1, acc, h1, h2, _ => by rw [l_store_Put_2_s, cd, if_neg (by omega), List.drop_eq_nil_of_le (by omega), List.map_nil, List.append_nil]
  | k + 1, i, m + 1, acc, h1, h2, h3 => by
    obtain ⟨j, hj'⟩ := get_at (xs := row) (i := i) (by omega)
    obtain ⟨j0, j1⟩ := hj j (List.mem_of_getElem? hj')
    rw [l_store_Put_2_s, cd, if_pos (by omega), nth_of hj', ob, toH_of j0 j1, ob, ob, app_of (by omega) (by simp; omega), ob, w64n (by omega), put2_loop N v45 v46 t t2 t3 v5 v52 p p2 l nodes a b x x2 row hr hj k (i + 1) m _ (by omega) (by omega) (by simp; omega), drop_at hj', List.map_cons, List.append_assoc]
    rfl
theorem put1_loop (N : Nat) (hN : Fu ≤ N) (t t2 : List Int) (t3 : List (List Int)) (v5 v52 : Int) (p p2 : List Int) (l : List Hd) (ns : List Nd) (h2l : t2.length = t.length) (hrows : RowsR t.length t3) (hn : t.length ≤ 1000) (hll : l.length = t.length) (hc : ∀ h ∈ l, 0 ≤ h.1 ∧ h.1 < ns.length) : ∀ (k i m : Nat), i + k = t.length → k < m →
    l_store_Put_1 N m ((t.length : Int), (i : Int), t, t2, t3, v5, v52, p, p2, l, wrK l t t2 t3 ns i) = some (v5, v52, p, p2, l, wrK l t t2 t3 ns t.length)
  | k, i, 0, h1, h2 => by omega
  | 0, i, m + 1, h1, h2 => by
    obtain rfl : i = t.length := by omega
    rw [l_store_Put_1_s, cd, if_neg (by omega)]
  | k + 1, i, m + 1, h1, h2 => by
    obtain ⟨x, hx⟩ := get_at (xs := t) (i := i) (by omega)
    obtain ⟨y, hy⟩ := get_at (xs := t2) (i := i) (by omega)
    obtain ⟨row, hrow⟩ := get_at (xs := t3) (i := i) (by rw [hrows.1]; omega)
    obtain ⟨h, hh⟩ := get_at (xs := l) (i := i) (by omega)
    obtain ⟨r8, rj⟩ := hrows.2 row (List.mem_of_getElem? hrow)
    obtain ⟨c0, c1⟩ := hc h (List.mem_of_getElem? hh)
    obtain ⟨z, hz⟩ := nget (ns := wrK l t t2 t3 ns i) (h := h) c0 (by rw [wrK_len]; exact c1)
    rw [l_store_Put_1_s, cd, if_pos (by omega), nth_of hh, ob, ob, nth_of hx, ob, nth_of hy, ob, nth_of hrow, ob, show ((0 : Int) = ((0 : Nat) : Int)) from rfl, put2_loop N _ _ t t2 t3 v5 v52 p p2 l _ _ _ _ _ row r8 (fun j hj => by rw [hll]; exact rj j hj) row.length 0 N [] (by omega) (by have := Fu_eq; omega) (by simp), ob]
    simp only [List.drop_zero, List.nil_append]
    rw [hz, ob, ob, w64n (by omega)]
    have e : (wrK l t t2 t3 ns i).set h.1.toNat (x, (y, row.map (toH l))) = wrK l t t2 t3 ns (i + 1) := by
      rw [wrK, nodeK]; simp [List.getD, hh, hx, hy, hrow]
    rw [e]
    exact put1_loop N hN t t2 t3 v5 v52 p p2 l ns h2l hrows hn hll hc k (i + 1) m (by omega) (by omega)
theorem rput3_loop (N : Nat) (i : Nat) (t t2 : List Int) (t3 : List (List Int)) (v5 v52 : Int) (p p2 : List Int) (l : List Hd) (nodes : List Nd) (row : List Int) (hrow : t3[i]? = some row) (hr : row.length ≤ 8) (hj : ∀ j ∈ row, 0 ≤ j ∧ j < l.length) : ∀ (k q m : Nat) (acc : List Hd), q + k = row.length → k < m → acc.length ≤ q →
    l_ref30_Put_3 N m ((i : Int), (q : Int), t, t2, t3, v5, v52, p, p2, l, nodes, acc) = some ((i : Int), t, t2, t3, v5, v52, p, p2, l, nodes, acc ++ (row.drop q).map (toH l))
  | k, q, 0, acc, h1, h2, _ => by omega
  | 0, q, m + 1, acc, h1, h2, _ => by rw [l_ref30_Put_3_s, nth_of hrow, ob, cd, if_neg (by omega), List.drop_eq_nil_of_le (by omega), List.map_nil, List.append_nil]
  | k + 1, q, m + 1, acc, h1, h2, h3 => by
    obtain ⟨j, hj'⟩ := get_at (xs := row) (i := q) (by omega)
    obtain ⟨j0, j1⟩ := hj j (List.mem_of_getElem? hj')
    rw [l_ref30_Put_3_s, nth_of hrow, ob, cd, if_pos (by omega), ob, nth_of hj', ob, toH_of j0 j1, ob, ob, app_of (by omega) (by simp; omega), ob, w64n (by omega), rput3_loop N i t t2 t3 v5 v52 p p2 l nodes row hrow hr hj k (q + 1) m _ (by omega) (by omega) (by simp; omega), drop_at hj', List.map_cons, List.append_assoc]
    rfl
theorem rput2_loop (N : Nat) (hN : Fu ≤ N) (t t2 : List Int) (t3 : List (List Int)) (v5 v52 : Int) (p p2 : List Int) (l : List Hd) (ns : List Nd) (h2l : t2.length = t.length) (hrows : RowsR t.length t3) (hn : t.length ≤ 1000) (hll : l.length = t.length) (hc : ∀ h ∈ l, 0 ≤ h.1 ∧ h.1 < ns.length) : ∀ (k i m : Nat), i + k = t.length → k < m →
    l_ref30_Put_2 N m ((i : Int), t, t2, t3, v5, v52, p, p2, l, wrK l t t2 t3 ns i) = some (v5, v52, p, p2, l, wrK l t t2 t3 ns t.length)
  | k, i, 0, h1, h2 => by omega
  | 0, i, m + 1, h1, h2 => by
    obtain rfl : i = t.length := by omega
    rw [l_ref30_Put_2_s, cd, if_neg (by omega)]
  | k + 1, i, m + 1, h1, h2 => by
    obtain ⟨x, hx⟩ := get_at (xs := t) (i := i) (by omega)
    obtain ⟨y, hy⟩ := get_at (xs := t2) (i := i) (by omega)
    obtain ⟨row, hrow⟩ := get_at (xs := t3) (i := i) (by rw [hrows.1]; omega)
    obtain ⟨h, hh⟩ := get_at (xs := l) (i := i) (by omega)
    obtain ⟨r8, rj⟩ := hrows.2 row (List.mem_of_getElem? hrow)
    obtain ⟨c0, c1⟩ := hc h (List.mem_of_getElem? hh)
    obtain ⟨z, hz⟩ := nget (ns := wrK l t t2 t3 ns i) (h := h) c0 (by rw [wrK_len]; exact c1)
    rw [l_ref30_Put_2_s, cd, if_pos (by omega), show ((0 : Int) = ((0 : Nat) : Int)) from rfl, rput3_loop N i t t2 t3 v5 v52 p p2 l _ row hrow r8 (fun j hj => by rw [hll]; exact rj j hj) row.length 0 N [] (by omega) (by have := Fu_eq; omega) (by simp), ob]
    simp only [List.drop_zero, List.nil_append]
    rw [nth_of hh, ob, ob, nth_of hx, ob, nth_of hy, ob, hz, ob, ob, w64n (by omega)]
    have e : (wrK l t t2 t3 ns i).set h.1.toNat (x, (y, row.map (toH l))) = wrK l t t2 t3 ns (i + 1) := by
      rw [wrK, nodeK]; simp [List.getD, hh, hx, hy, hrow]
    rw [e]
    exact rput2_loop N hN t t2 t3 v5 v52 p p2 l ns h2l hrows hn hll hc k (i + 1) m (by omega) (by omega)
open Classical in
noncomputable def putS (g f : List Int) (ns : List Nd) (t t2 : List Int) (t3 : List (List Int)) : Int × List Int × List Int × List Nd × Int × Int :=
  if rightS g f ns = false then (1, g, f, ns, 0, 0) else if ¬ TowerR t t2 t3 then (1, g, f, ns, 0, 0) else
  if (takeN t.length g f).1 ≠ 0 then ((takeN t.length g f).1, g, f, ns, 0, 0)
  else (0, (takeN t.length g f).2.1, (takeN t.length g f).2.2.1, wrK (takeN t.length g f).2.2.2 t t2 t3 ns t.length, toH (takeN t.length g f).2.2.2 0)
theorem put_eq (N : Nat) (hN : Fu + 10 ≤ N) (g f : List Int) (hg : g.length ≤ 9223372036854775807) (hf : f.length ≤ 9223372036854775807) (ns : List Nd) (hl : LN ns) (t t2 : List Int) (t3 : List (List Int)) (h1 : t.length ≤ 9223372036854775807) (h2 : t2.length ≤ 9223372036854775807) :
    m_store_Put N (g, f, ns, t, t2, t3) = some (putS g f ns t t2 t3) := by
  obtain ⟨N, rfl⟩ : ∃ n, N = n + 1 := ⟨N - 1, by omega⟩
  rw [m_store_Put_eq, sright_eq N (by omega) g f hg hf ns hl, ob]
  unfold putS
  cases hr : rightS g f ns with
  | false => simp
  | true =>
    rw [Bool.not_true, cond_false, tright_eq N (by omega) t t2 t3 h1 h2, ob, if_neg (by simp)]
    by_cases ht : TowerR t t2 t3
    · obtain ⟨e2, hrows, h1000, hne, hnd⟩ := tower_rows ht
      obtain ⟨r, hr1, hr2, hr3⟩ := taken_neq N (by omega) t.length h1000 g f hg hf
      rw [cdn, if_pos ht, hr1, ob, cdn, if_neg (show ¬ ¬ TowerR t t2 t3 from fun q => q ht)]
      by_cases h0 : r.1 = 0
      · rw [if_pos h0, if_neg (by rw [← hr2]; exact fun q => q h0)]
        have e := hr3 h0
        have ok := takeN_ok t.length (rightS_iff.1 hr).1 (by rw [← hr2]; exact h0)
        have hlen := (rightS_iff.1 hr).2.1
        obtain ⟨g1, f1, _⟩ := right_len (rightS_iff.1 hr).1
        rw [nclone_eq N (by omega) ns (by omega), ob, e, ok.len, show ((0 : Int) = ((0 : Nat) : Int)) from rfl]
        have hL := put1_loop N (by omega) t t2 t3 0 0 (takeN t.length g f).2.1 (takeN t.length g f).2.2.1 (takeN t.length g f).2.2.2 ns e2 hrows h1000 ok.len (fun h hh => by
          obtain ⟨a, b, _⟩ := ok.cell h hh; exact ⟨a, by omega⟩) t.length 0 N (by omega) (by have := Fu_eq; omega)
        rw [show wrK (takeN t.length g f).2.2.2 t t2 t3 ns 0 = ns from rfl] at hL
        rw [show ((0 : Int) = ((0 : Nat) : Int)) from rfl] at hL
        rw [hL, ob]
        have hp : 0 < t.length := List.length_pos_iff.2 hne
        rw [toH_of (l := (takeN t.length g f).2.2.2) (j := ((0 : Nat) : Int)) (by omega) (by rw [ok.len]; omega), ob, ob]
      · rw [if_neg h0, if_pos (by rw [← hr2]; exact h0), hr2]
    · rw [cdn, if_neg ht, if_pos ht]
theorem rput_eq (N : Nat) (hN : Fu + 10 ≤ N) (g f : List Int) (hg : g.length ≤ 9223372036854775807) (hf : f.length ≤ 9223372036854775807) (ns : List Nd) (hl : LN ns) (t t2 : List Int) (t3 : List (List Int)) (h1 : t.length ≤ 9223372036854775807) (h2 : t2.length ≤ 9223372036854775807) :
    m_ref30_Put N (g, f, ns, t, t2, t3) = some (putS g f ns t t2 t3) := by
  obtain ⟨N, rfl⟩ : ∃ n, N = n + 1 := ⟨N - 1, by omega⟩
  rw [m_ref30_Put_eq, rrights_eq N (by omega) g f hg hf ns hl, ob]
  unfold putS
  cases hr : rightS g f ns with
  | false => simp
  | true =>
    rw [Bool.not_true, cond_false, rright_eq N (by omega) t t2 t3 h1 h2, ob, if_neg (by simp)]
    by_cases ht : TowerR t t2 t3
    · obtain ⟨e2, hrows, h1000, hne, hnd⟩ := tower_rows ht
      rw [cdn, if_pos ht, show ((0 : Int) = ((0 : Nat) : Int)) from rfl, rput1_loop N (by omega) g f ns t t2 t3 _ _ h1000 t.length 0 N g f [] (by omega) (by have := Fu_eq; omega) (by simp) hg hf, ob, if_neg (show ¬ ¬ TowerR t t2 t3 from fun q => q ht)]
      by_cases h0 : (takeN t.length g f).1 = 0
      · rw [if_pos h0, if_neg (fun q => q h0)]
        have ok := takeN_ok t.length (rightS_iff.1 hr).1 h0
        have hlen := (rightS_iff.1 hr).2.1
        obtain ⟨g1, f1, _⟩ := right_len (rightS_iff.1 hr).1
        simp only [List.nil_append]
        rw [app_of (by omega) (by simp; omega), ob, List.nil_append]
        have hL := rput2_loop N (by omega) t t2 t3 ((0 : Nat) : Int) ((0 : Nat) : Int) (takeN t.length g f).2.1 (takeN t.length g f).2.2.1 (takeN t.length g f).2.2.2 ns e2 hrows h1000 ok.len (fun h hh => by
          obtain ⟨a, b, _⟩ := ok.cell h hh; exact ⟨a, by omega⟩) t.length 0 N (by omega) (by have := Fu_eq; omega)
        rw [show wrK (takeN t.length g f).2.2.2 t t2 t3 ns 0 = ns from rfl] at hL
        rw [hL, ob]
        have hp : 0 < t.length := List.length_pos_iff.2 hne
        rw [toH_of (l := (takeN t.length g f).2.2.2) (j := ((0 : Nat) : Int)) (by omega) (by rw [ok.len]; omega), ob, ob]
      · rw [if_neg h0, if_pos (show (takeN t.length g f).1 ≠ ((0 : Nat) : Int) from h0)]; rfl
    · rw [cdn, if_neg ht, if_pos ht]
/-- a new store -/
def smakeS (n : Int) : Int × List Int × List Int × List Nd := if (makeP n).1 = 0 then (0, (makeP n).2.1, (makeP n).2.2, List.replicate n.toNat (0, (0, []))) else ((makeP n).1, [], [], [])
theorem makeP_zero {n : Int} (h : (makeP n).1 = 0) : 1 ≤ n ∧ n ≤ 1000 := by
  unfold makeP at h
  by_cases c : n < 1 ∨ 1000 < n
  · rw [if_pos c] at h; cases h
  · omega
theorem smake_eq (N : Nat) (hN : Fu + 2 ≤ N) (n : Int) : m_store_Make N n = some (smakeS n) := by
  obtain ⟨N, rfl⟩ : ∃ n, N = n + 1 := ⟨N - 1, by omega⟩
  rw [m_store_Make_eq, make_eq N (by omega), ob, cdn]
  unfold smakeS
  by_cases h : (makeP n).1 = 0
  · have := makeP_zero h
    rw [if_pos h, if_pos h, mak_of (by omega) (by omega) (by omega), ob]
  · rw [if_neg h, if_neg h]
theorem rsmake_eq (N : Nat) (hN : Fu + 2 ≤ N) (n : Int) : m_ref30_Make N n = some (smakeS n) := by
  obtain ⟨N, rfl⟩ : ∃ n, N = n + 1 := ⟨N - 1, by omega⟩
  rw [m_ref30_Make_eq, rmake_eq N (by omega), ob, cdn]
  unfold smakeS
  by_cases h : (makeP n).1 = 0
  · have := makeP_zero h
    rw [if_pos h, if_pos h, mak_of (by omega) (by omega) (by omega), ob]
  · rw [if_neg h, if_neg h]
theorem wrK_mem (l : List Hd) (t t2 : List Int) (t3 : List (List Int)) (ns : List Nd) : ∀ k, ∀ x ∈ wrK l t t2 t3 ns k, x ∈ ns ∨ ∃ i, x = nodeK l t t2 t3 i
  | 0, x, h => .inl h
  | k + 1, x, h => by
    rw [wrK] at h
    rcases List.mem_or_eq_of_mem_set h with h | h
    · exact wrK_mem l t t2 t3 ns k x h
    · exact .inr ⟨_, h⟩
theorem takeN_lens : ∀ (k : Nat) (g f : List Int), (takeN k g f).2.1.length = g.length ∧ (takeN k g f).2.2.1.length ≤ f.length
  | 0, g, f => ⟨rfl, Nat.le_refl _⟩
  | k + 1, g, f => by
    obtain ⟨l1, l2⟩ := takeP_len g f
    obtain ⟨l3, l4⟩ := takeN_lens k (takeP g f).2.1 (takeP g f).2.2.1
    by_cases h1 : (takeP g f).1 = 0
    · by_cases h2 : (takeN k (takeP g f).2.1 (takeP g f).2.2.1).1 = 0
      · rw [takeN_s h1 h2]; exact ⟨l3.trans l1, by show (takeN k (takeP g f).2.1 (takeP g f).2.2.1).2.2.1.length ≤ _; omega⟩
      · rw [takeN_l h1 h2]; exact ⟨l3.trans l1, by show (takeN k (takeP g f).2.1 (takeP g f).2.2.1).2.2.1.length ≤ _; omega⟩
    · rw [takeN_f h1]; exact ⟨l1, l2⟩
theorem putS_lens {g f : List Int} {ns : List Nd} {t t2 : List Int} {t3 : List (List Int)} (hg : g.length ≤ 9223372036854775807) (hf : f.length ≤ 9223372036854775807) (hl : LN ns) : (putS g f ns t t2 t3).2.1.length ≤ 9223372036854775807 ∧ (putS g f ns t t2 t3).2.2.1.length ≤ 9223372036854775807 ∧ LN (putS g f ns t t2 t3).2.2.2.1 := by
  unfold putS
  by_cases h1 : rightS g f ns = false
  · rw [if_pos h1]; exact ⟨hg, hf, hl⟩
  rw [if_neg h1]
  by_cases ht : TowerR t t2 t3
  · rw [if_neg (show ¬ ¬ TowerR t t2 t3 from fun q => q ht)]
    by_cases h0 : (takeN t.length g f).1 = 0
    · rw [if_neg (fun q => q h0)]
      obtain ⟨l1, l2⟩ := takeN_lens t.length g f
      obtain ⟨e2, hrows, h1000, hne, hnd⟩ := tower_rows ht
      refine ⟨by show (takeN t.length g f).2.1.length ≤ _; omega, by show (takeN t.length g f).2.2.1.length ≤ _; omega, by show (wrK _ t t2 t3 ns t.length).length ≤ _; rw [wrK_len]; exact hl.1, fun x hx => ?_⟩
      rcases wrK_mem _ _ _ _ _ _ x hx with hx | ⟨i, rfl⟩
      · exact hl.2 x hx
      · simp only [nodeK, List.length_map]
        cases hi : t3[i]? with
        | none => simp [List.getD, hi]
        | some row =>
          have := (hrows.2 row (List.mem_of_getElem? hi)).1
          rw [List.getD, hi]; show row.length ≤ _; omega
    · rw [if_pos h0]; exact ⟨hg, hf, hl⟩
  · rw [if_pos ht]; exact ⟨hg, hf, hl⟩
theorem rgreat_loop (N : Nat) (most : Int) (t t2 : List Int) (t3 : List (List Int)) (hn : t3.length ≤ 9223372036854775807) : ∀ (k i m : Nat) (n : Int), i + k = t3.length → k < m → ∃ r, l_ref14_Great_1 N m (most, n, (i : Int), t, t2, t3) = some r
  | k, i, 0, n, h1, h2 => by omega
  | 0, i, m + 1, n, h1, h2 => by
    rw [l_ref14_Great_1_s, cd, if_neg (by omega)]; exact ⟨_, rfl⟩
  | k + 1, i, m + 1, n, h1, h2 => by
    obtain ⟨x, hx⟩ := get_at (xs := t3) (i := i) (by omega)
    rw [l_ref14_Great_1_s, cd, if_pos (by omega), cd]
    by_cases h : n ≤ most
    · rw [if_pos h, nth_of hx, ob, w64n (by omega)]
      exact rgreat_loop N most t t2 t3 hn k (i + 1) m _ (by omega) (by omega)
    · rw [if_neg h]; exact ⟨_, rfl⟩
theorem rgreat_ex (N : Nat) (hN : Fu + 1 ≤ N) (t t2 : List Int) (t3 : List (List Int)) (most : Int) (hn : t3.length ≤ 9223372036854775807) : ∃ b, m_ref14_Great N (t, t2, t3, most) = some b := by
  obtain ⟨N, rfl⟩ : ∃ n, N = n + 1 := ⟨N - 1, by omega⟩
  obtain ⟨r, hr⟩ := rgreat_loop N most t t2 t3 hn t3.length 0 N (IntKind.wrap .i64 ((IntKind.wrap .i64 (((t.length : Nat) : Int) + ((t2.length : Nat) : Int))) + ((t3.length : Nat) : Int))) (by omega) (by have := Fu_eq; omega)
  rw [m_ref14_Great_eq, show ((0 : Int) = ((0 : Nat) : Int)) from rfl, hr, ob]
  exact ⟨_, rfl⟩
theorem smakeS_lens (n : Int) : (smakeS n).2.1.length ≤ 9223372036854775807 ∧ (smakeS n).2.2.1.length ≤ 9223372036854775807 ∧ LN (smakeS n).2.2.2 := by
  obtain ⟨a, b⟩ := makeP_len n
  unfold smakeS
  by_cases h : (makeP n).1 = 0
  · have := makeP_zero h
    rw [if_pos h]
    refine ⟨by show (makeP n).2.1.length ≤ _; omega, by show (makeP n).2.2.length ≤ _; omega, by show (List.replicate _ _).length ≤ _; rw [List.length_replicate]; omega, fun x hx => ?_⟩
    rw [(List.mem_replicate.1 hx).2]; simp
  · rw [if_neg h]; exact ⟨by simp, by simp, by simp, by simp⟩
theorem storePuts (N : Nat) (hN : Fu + 12 ≤ N) (g f : List Int) (ns : List Nd) (t t2 : List Int) (t3 : List (List Int)) (n : Int) (hg0 : g.length ≤ 140737488351232) (hf0 : f.length ≤ 140737488351232) (hn0 : ns.length ≤ 140737488351232) (hx0 : ∀ x ∈ ns, x.2.2.length ≤ 140737488351232) (h1 : t.length ≤ 9223372036854775807) (h2 : t2.length ≤ 9223372036854775807) (h3 : t3.length ≤ 9223372036854775807) :
    m_law30_StorePuts N (g, f, ns, t, t2, t3, n) = some true := by
  obtain ⟨N, rfl⟩ : ∃ n, N = n + 1 := ⟨N - 1, by omega⟩
  have hg : g.length ≤ 9223372036854775807 := by omega
  have hf : f.length ≤ 9223372036854775807 := by omega
  have hl : LN ns := ⟨by omega, fun x hx => by have := hx0 x hx; omega⟩
  obtain ⟨b, hb⟩ := sgreat_ex N (by omega) g f ns hl.1
  obtain ⟨b2, hb2⟩ := rgreat_ex N (by omega) t t2 t3 200 h3
  rw [m_law30_StorePuts_eq, alive30 (by omega), ob, hb, ob]
  simp only [Bool.not_true, cond_false]
  cases b with
  | true => rfl
  | false =>
    rw [cond_false, hb2, ob]
    cases b2 with
    | true => rfl
    | false =>
      have hs := Sm.of_small (sgreat_small N (by omega) g f ns hg0 hf0 hn0 hx0 hb)
      obtain ⟨k3, k4, k5⟩ := putS_lens (t := t) (t2 := t2) (t3 := t3) hg hf hl
      obtain ⟨k6, k7, k8⟩ := smakeS_lens n
      rw [cond_false, copy_eq N (by omega) g f ns hs, ob, put_eq N (by omega) g f hg hf ns hl t t2 t3 h1 h2, ob, rput_eq N (by omega) g f hg hf ns hl t t2 t3 h1 h2, ob, smake_eq N (by omega), ob, rsmake_eq N (by omega), ob,
        ssame_eq N (by omega) _ _ _ _ _ _ k3 k4 k5, ob, ssame_eq N (by omega) _ _ _ _ _ _ k6 k7 k8, ob, ssame_eq N (by omega) _ _ _ _ _ _ hg hf hl, ob]
      simp
end Go.Proofs.Ytdahghkmejnlgaa
end
section
set_option linter.unusedVariables false
set_option linter.unusedSimpArgs false
namespace Go.Proofs.Ytdahghkmejnlgaa.lawStorePuts
open Go Go.ChangeShapes Go.WideShapes Go.ChangeAt Go.RowKit
theorem own : ownKnob Try.prog.godebug = none := by kernel_rfl
theorem lOut : laidOutB Try.prog = true := by kernel_rfl
theorem parOk : ∀ t ∈ Try.f4.params.toList, Try.prog.readableRec t = true ∧ t < Try.prog.types.size := by
  intro t ht
  rw [Try.params4] at ht
  simp at ht
  rcases ht with rfl | rfl | rfl
  all_goals exact ⟨by kernel_rfl, of_decide_eq_true (by kernel_rfl)⟩
theorem code0 : tyC Try.prog 9 27 (.pr (.pr (.sl (.i .i64)) (.sl (.i .i64))) (.sl (.pr (.i .i64) (.pr (.i .i64) (.sl (.pr (.i .i64) (.i .i64))))))) = true := by kernel_rfl
theorem code1 : tyC Try.prog 9 35 (.pr (.sl (.i .i64)) (.pr (.sl (.i .i64)) (.sl (.sl (.i .i64))))) = true := by kernel_rfl
theorem code2 : tyC Try.prog 9 3 (.i .i64) = true := by kernel_rfl
theorem agg0 : aggB Try.prog 27 = true := by kernel_rfl
theorem agg1 : aggB Try.prog 35 = true := by kernel_rfl
theorem agg2 : aggB Try.prog 3 = false := by kernel_rfl
theorem res (N : Nat) : (c_law30_StorePuts N).el true EV (fun e _ => some e) = some (.sc .b true) := by kernel_rfl
set_option maxRecDepth 100000 in
theorem contract (H : Type) (enc : TypeId × Value → H) (W : World) (base : Nat) (args : Array Value) (ds gs : List (DataW H)) (before : List MemPlace)
    (hval : ∀ (j : Nat) t v, Try.f4.params[j]? = some t → args[j]? = some v → Value.okWide Try.prog W .any base t v)
    (hW : DataW.Whole enc Try.prog Try.f4.params.toList Rows.storePutsSpec.vars false W args.toList ds gs before) 
    (hz : (DataW.weightsEach Try.prog (Try.f4.params.toList ++ (OpenSpec.ofChange Rows.storePutsSpec).bare.plain.varTypes Try.prog) (ds ++ gs)).all (· ≤ reachBytes) = true) :
    Calls Try.prog 4 args W fun e W' => ∃ v, e = .returned v ∧ Rows.storePutsSpec.post enc Try.prog Try.f4 false true false false W args v W' := by
  have hW' := hW
  obtain ⟨p, q, hA0, hV, rfl, hfz, hnd⟩ := hW
  have hA : DataW.TrodAll enc Try.prog W 0 (fun _ => true) true Try.f4.params.toList args.toList ds p := hA0
  have hval2 := hval
  rw [Try.params4] at hA hval
  obtain ⟨v0, vs0, d0, ds0, p0, q0, hargs, rfl, rfl, h0, r0⟩ := trodAll_cons hA
  obtain ⟨v1, vs1, d1, ds1, p1, q1, rfl, rfl, rfl, h1, r1⟩ := trodAll_cons r0
  obtain ⟨v2, vs2, d2, ds2, p2, q2, rfl, rfl, rfl, h2, r2⟩ := trodAll_cons r1
  obtain ⟨rfl, rfl, rfl⟩ := trodAll_nil r2
  obtain rfl : args = #[v0, v1, v2] := by cases args; simp_all
  obtain ⟨rfl, rfl⟩ := trodVars_none hV
  refine law_post lOut rfl parOk rfl Try.underlying4 hW' rfl ?_
  clear hW' hA0 hval2
  have hz' := hz
  rw [Try.params4] at hz'
  obtain ⟨y0, f0, z0, a0, b0⟩ := open_argz code0 (hval 0 27 v0 rfl rfl) h0
  replace z0 := z0 fun n hn => of_decide_eq_true (List.all_eq_true.1 hz' n (DataW.weights_mem_each (j := 0) rfl rfl n hn))
  obtain ⟨y1, f1, z1, a1, b1⟩ := open_argz code1 (hval 1 35 v1 rfl rfl) h1
  replace z1 := z1 fun n hn => of_decide_eq_true (List.all_eq_true.1 hz' n (DataW.weights_mem_each (j := 1) rfl rfl n hn))
  obtain ⟨y2, f2, z2, a2, b2⟩ := open_argz code2 (hval 2 3 v2 rfl rfl) h2
  replace z2 := z2 fun n hn => of_decide_eq_true (List.all_eq_true.1 hz' n (DataW.weights_mem_each (j := 2) rfl rfl n hn))
  obtain ⟨N, hN⟩ : ∃ N, Fu + 20 ≤ N := ⟨_, Nat.le_refl _⟩
  have hm : m_law30_StorePuts N (y0.1.1, y0.1.2, y0.2, y1.1, y1.2.1, y1.2.2, y2) = some true := storePuts N (by omega) _ _ _ _ _ _ _ z0.1.1.1 z0.1.2.1 z0.2.1 (fun x h => (z0.2.2 x h).2.2.1) f1.1.1 f1.2.1.1 f1.2.2.1
  have hc := c_law30_StorePuts_ok N
  have hr := res N
  unfold c_law30_StorePuts at hc hr
  refine calls_of_ctr hc hm (fun b o u h => by obtain ⟨_, _, _, h, _⟩ := h; cases h) (vs := [v0, v1, v2]) ?_ hr rfl
  · exact LR.cons (a0 agg0) (LR.cons (a1 agg1) (LR.cons (b2 agg2) (LR.nil)))
noncomputable def witWorld (os : Os) : World := World.holding Try.prog os ⟨#[], #[], []⟩
theorem laid_met (os : Os) : laidMet Try.prog Rows.storePutsRow.laid ((witWorld os).forCall (fun _ _ => 0) ⟨#[], #[.agg #[.slice none 0 0, .slice none 0 0, .slice none 0 0], .agg #[.slice none 0 0, .slice none 0 0, .slice none 0 0], .int .i64 0], []⟩).memory := ⟨[], rfl, List.nodup_nil, fun _ _ h => by cases h⟩
theorem reads (os : Os) {H : Type} (enc : TypeId × Value → H) : ∃ places, DataW.whole enc Try.prog ((witWorld os).forCall (fun _ _ => 0) ⟨#[], #[.agg #[.slice none 0 0, .slice none 0 0, .slice none 0 0], .agg #[.slice none 0 0, .slice none 0 0, .slice none 0 0], .int .i64 0], []⟩).memory Try.f4.params.toList Rows.storePutsSpec.vars false (#[.agg #[.slice none 0 0, .slice none 0 0, .slice none 0 0], .agg #[.slice none 0 0, .slice none 0 0, .slice none 0 0], .int .i64 0] : Array Value).toList 8 = some ([.agg [.agg [.nil, .nil], .nil], .agg [.nil, .nil, .nil], .lit (.int .i64 0)], [], places) :=
  ⟨[], by kernel_rfl⟩
set_option maxRecDepth 100000 in
theorem lifted (os : Os) (started : os.Started) (H : Type) (enc : TypeId × Value → H) (F : Stop.Interp) :
    ReturnsInHanded {} Try.checked os 4 .any ((OpenSpec.ofChange Rows.storePutsSpec).preRow enc Try.prog Try.f4 Rows.storePutsRow.domain false Rows.storePutsRow.laid) (((OpenSpec.ofChange Rows.storePutsSpec).at F).post enc Try.prog Try.f4 false true false false) := by
  obtain ⟨places, hx⟩ := reads os enc
  refine returnsInHanded_of_row (C := Try.checked) (s := (OpenSpec.ofChange Rows.storePutsSpec)) own started (by kernel_rfl) Try.func4
    (witness_row_at (enc := enc) (C := Try.checked) false (witWorld os) #[.agg #[.slice none 0 0, .slice none 0 0, .slice none 0 0], .agg #[.slice none 0 0, .slice none 0 0, .slice none 0 0], .int .i64 0] rfl (by kernel_rfl) (by kernel_rfl) (by kernel_rfl)
      (OpenSpec.preRow_of_cond 8 hx (by kernel_rfl) (fun k hk => by cases hk) (by kernel_rfl) (laid_met os))) ?_
  intro W base args ds gs before hval hW _ hcond hz hL _ _
  exact contract H enc W base args ds gs before hval hW hz
theorem said : Rows.StorePutsSaid :=
  OpenClaim.holds_of_cond 4 Try.f4 rfl rfl rfl rfl rfl rfl rfl ⟨rfl, rfl, rfl, rfl, rfl⟩ rfl rfl rfl rfl rfl (by kernel_rfl) Try.func4 (by kernel_rfl)
    (of_decide_eq_true (by kernel_rfl)) (by unfold Func.isWrapper; first | (rw [if_pos (by decide +kernel)]; kernel_rfl) | (rw [if_neg (by decide +kernel)]; exact ⟨rfl, rfl⟩))
    (fun os started H enc _ F => by rw [OpenClaim.pre_eq_preRow]; exact lifted os started H enc F)
end Go.Proofs.Ytdahghkmejnlgaa.lawStorePuts
end
