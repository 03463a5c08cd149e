/- Where links lead: to the next one that is as high, in the order of the ring. -/
import Derived.Test.YtggnolfcgaglfaaSplAll
set_option linter.unusedVariables false
set_option linter.unusedSimpArgs false
namespace Go.Proofs.Ytggnolfcgaglfaa
open Go Go.RowKit

theorem mem_links {ts hs : List Int} {y : Lnk} : y ∈ linksL ts hs ↔ ∃ i h, i < hs.length ∧ h < (hAt hs i).toNat ∧ y = entLk ts hs i h := by
  unfold linksL rowLk
  rw [List.mem_flatMap]
  constructor
  · rintro ⟨i, hi, hy⟩
    obtain ⟨h, hh, rfl⟩ := List.mem_map.1 hy
    exact ⟨i, h, List.mem_range.1 hi, List.mem_range.1 hh, rfl⟩
  · rintro ⟨i, h, hi, hh, rfl⟩
    exact ⟨i, List.mem_range.2 hi, List.mem_map.2 ⟨h, List.mem_range.2 hh, rfl⟩⟩
theorem lk_out {ts hs : List Int} (hT : TowR ts hs) {x h : Int} (hx : x ∉ ts) : lk (linksL ts hs) (x, h) = none := by
  cases e : lk (linksL ts hs) (x, h) with
  | none => rfl
  | some v =>
    obtain ⟨y, hy, h1, h2⟩ := lk_mem e
    obtain ⟨i, k, hi, hk, rfl⟩ := mem_links.1 hy
    obtain ⟨a, b, e1, e2, e3, _⟩ := ent_at hT hi hk
    rw [e3] at h1
    have : a = x := congrArg Prod.fst h1
    exact absurd (this ▸ List.mem_of_getElem? e1) hx
theorem getD_map {l : List Int} {H : Int → Int} {i : Nat} {z : Int} (hz : l[i]? = some z) : hAt (l.map H) i = H z := hAt_of (by rw [List.getElem?_map, hz]; rfl)
/-- the next one that is as high -/
def nxH (H : Int → Int) (S : List Int) (x h : Int) : Int := (S.find? fun y => decide (h < H y)).getD x
theorem find_first {S : List Int} {p : Int → Bool} {k : Nat} {z : Int} (hz : S[k]? = some z) (hp : p z = true) (hl : ∀ j w, j < k → S[j]? = some w → p w = false) : S.find? p = some z := by
  induction S generalizing k with
  | nil => simp at hz
  | cons a S ih =>
    cases k with
    | zero =>
      simp only [List.getElem?_cons_zero, Option.some.injEq] at hz
      subst hz
      rw [List.find?_cons, hp]
    | succ k =>
      have ha := hl 0 a (by omega) rfl
      rw [List.find?_cons, ha]
      exact ih (by simpa using hz) fun j w hj hw => hl (j + 1) w (by omega) (by simpa using hw)
theorem lk_links {l : List Int} {H : Int → Int} {x : Int} {S : List Int} (hT : TowR l (l.map H)) (hx : x ∈ l) (hS : rotAt l x = x :: S) (h : Int) :
    lk (linksL l (l.map H)) (x, h) = if 0 ≤ h ∧ h < H x then some (nxH H S x h) else none := by
  have hlen : (l.map H).length = l.length := by simp
  have hix := ix_lt hx
  have hg := ix_get hx
  have hSl : S.length + 1 = l.length := by have := rotAt_len l x; rw [hS] at this; simpa using this
  have hSg : ∀ d, d < S.length → S[d]? = l[(ix l x + (d + 1)) % l.length]? := fun d hd => by
    rw [← rot_get l (Nat.le_of_lt hix) (by omega), show rot l (ix l x) = rotAt l x from rfl, hS, List.getElem?_cons_succ]
  by_cases hc : 0 ≤ h ∧ h < H x
  · rw [if_pos hc]
    have hh : h.toNat < (hAt (l.map H) (ix l x)).toNat := by rw [getD_map hg]; omega
    obtain ⟨a, b, e1, e2, e3, e4, e5⟩ := ent_at hT (i := ix l x) (by omega) hh
    have ha : a = x := Option.some.inj (e1.symm.trans hg)
    subst ha
    have hm : (a, ((h.toNat : Nat) : Int), b) ∈ linksL l (l.map H) := mem_links.2 ⟨_, _, by omega, hh, e3.symm⟩
    have hsp : spt (a, ((h.toNat : Nat) : Int), b) = (a, h) := by unfold spt; simp only; rw [Int.toNat_of_nonneg hc.1]
    have hne := lk_some_of hm
    rw [hsp] at hne
    obtain ⟨v, hv⟩ := Option.ne_none_iff_exists'.1 hne
    -- it is told once
    obtain ⟨y, hy, h1, h2⟩ := lk_mem hv
    obtain ⟨i, k, hi, hk, rfl⟩ := mem_links.1 hy
    obtain ⟨a', b', f1, f2, f3, f4, f5⟩ := ent_at hT hi hk
    rw [f3] at h1 h2
    have g1 : a' = a := congrArg Prod.fst h1
    have g2 : ((k : Nat) : Int) = h := congrArg Prod.snd h1
    subst g1
    have g3 : i = ix l a' := (ix_at hT.2.2.1.2.2 f1).symm
    subst g3
    have g4 : k = h.toNat := by omega
    subst g4
    have hbb : b' = b := by rw [f2] at e2; exact Option.some.inj e2
    simp only at h2
    rw [hv, ← h2, hbb]
    congr 1
    -- which one it is
    obtain ⟨d1, d2, d3, d4⟩ := dist_ok (hs := l.map H) (i := ix l a') (h := h.toNat) (by omega) (by omega)
    rw [hlen] at d1 d3 d4
    have hb : l[(ix l a' + dist (l.map H) (ix l a') h.toNat) % l.length]? = some b := by
      rw [linkOf, hlen] at e2
      unfold nthI at e2
      rw [if_pos (by omega), Int.toNat_natCast] at e2
      exact e2
    have hpb : ∀ (d : Nat) w, l[(ix l a' + d) % l.length]? = some w → hAt (l.map H) ((ix l a' + d) % l.length) = H w := fun d w hw => getD_map hw
    unfold nxH
    by_cases hd : dist (l.map H) (ix l a') h.toNat < l.length
    · rw [find_first (k := dist (l.map H) (ix l a') h.toNat - 1) (z := b)]
      · rfl
      · rw [hSg _ (by omega), show dist (l.map H) (ix l a') h.toNat - 1 + 1 = dist (l.map H) (ix l a') h.toNat by omega]; exact hb
      · rw [hpb _ _ hb] at d1
        simp only [decide_eq_true_eq]; omega
      · intro j w hj hw
        rw [hSg _ (by omega)] at hw
        have := d4 (j + 1) (by omega) (by omega)
        rw [hpb _ _ hw] at this
        simp only [decide_eq_false_iff_not]; omega
    · have hdn : dist (l.map H) (ix l a') h.toNat = l.length := by omega
      rw [hdn, Nat.add_mod_right, Nat.mod_eq_of_lt hix, hg] at hb
      have hno : S.find? (fun y => decide (h < H y)) = none := by
        rw [List.find?_eq_none]
        intro w hw
        obtain ⟨j, hj, rfl⟩ := List.getElem_of_mem hw
        have hw2 := List.getElem?_eq_getElem hj
        rw [hSg _ hj] at hw2
        have := d4 (j + 1) (by omega) (by omega)
        rw [hpb _ _ hw2] at this
        simp only [decide_eq_true_eq]; omega
      rw [hno]
      exact (Option.some.inj hb).symm
  · rw [if_neg hc]
    cases e : lk (linksL l (l.map H)) (x, h) with
    | none => rfl
    | some v =>
      obtain ⟨y, hy, h1, h2⟩ := lk_mem e
      obtain ⟨i, k, hi, hk, rfl⟩ := mem_links.1 hy
      obtain ⟨a', b', f1, f2, f3, f4, f5⟩ := ent_at hT hi hk
      rw [f3] at h1
      have g1 : a' = x := congrArg Prod.fst h1
      have g2 : ((k : Nat) : Int) = h := congrArg Prod.snd h1
      rw [getD_map f1, g1] at hk
      omega
/-- the same ring, the same heights: the same links -/
theorem lk_rot {l j : List Int} {H G : Int → Int} (hl : TowR l (l.map H)) (hj : TowR j (j.map G)) (hm : ∀ z, z ∈ l ↔ z ∈ j) (hr : ∀ z ∈ l, rotAt l z = rotAt j z) (hH : ∀ z ∈ l, H z = G z) (s : Spot) : lk (linksL l (l.map H)) s = lk (linksL j (j.map G)) s := by
  obtain ⟨x, h⟩ := s
  by_cases hx : x ∈ l
  · obtain ⟨S, hS⟩ : ∃ S, rotAt l x = x :: S := by
      have := rotAt_first hx
      cases e : rotAt l x with
      | nil => rw [e] at this; simp at this
      | cons a S => rw [e] at this; simp at this; exact ⟨S, by rw [this]⟩
    rw [lk_links hl hx hS, lk_links hj ((hm x).1 hx) ((hr x hx) ▸ hS), hH x hx]
    have : nxH H S x h = nxH G S x h := by
      unfold nxH
      congr 1
      have hSm : ∀ y ∈ S, y ∈ l := fun y hy => rotAt_mem.1 (by rw [hS]; simp [hy])
      clear hS
      induction S with
      | nil => rfl
      | cons a S ih =>
        rw [List.find?_cons, List.find?_cons, hH a (hSm a (by simp)), ih fun y hy => hSm y (by simp [hy])]
    rw [this]
  · rw [lk_out hl hx, lk_out hj (fun e => hx ((hm x).2 e))]
/-- how many links -/
theorem links_count {l : List Int} {H : Int → Int} : (linksL l (l.map H)).length = (l.map fun z => (H z).toNat).sum := by
  unfold linksL
  rw [List.length_flatMap]
  congr 1
  apply List.ext_getElem?
  intro i
  rw [List.getElem?_map, List.getElem?_map]
  by_cases hi : i < l.length
  · obtain ⟨z, hz⟩ := get_at hi
    rw [List.getElem?_range (by simpa using hi), hz]
    simp [rowLk, getD_map hz]
  · rw [List.getElem?_eq_none (by simp; omega), List.getElem?_eq_none (by omega)]; rfl
/-! two rings that were one -/
def lastHi (H : Int → Int) (A : List Int) (h : Int) : Int := (A.reverse.find? fun y => decide (h < H y)).getD 0
theorem lastHi_of {H : Int → Int} {u v : List Int} {z h : Int} (hz : h < H z) (hv : ∀ y ∈ v, ¬ h < H y) : lastHi H (u ++ z :: v) h = z := by
  unfold lastHi
  rw [List.reverse_append, List.reverse_cons, List.append_assoc, List.find?_append]
  have : v.reverse.find? (fun y => decide (h < H y)) = none := by
    rw [List.find?_eq_none]
    intro y hy
    simpa using hv y (List.mem_reverse.1 hy)
  rw [this]
  simp [hz]
theorem nx_same {H : Int → Int} {v a b : List Int} {x h : Int} (hv : ∃ y ∈ v, h < H y) : nxH H (v ++ a) x h = nxH H (v ++ b) x h := by
  unfold nxH
  rw [List.find?_append, List.find?_append]
  obtain ⟨y, hy, hh⟩ := hv
  cases e : v.find? (fun y => decide (h < H y)) with
  | none =>
    rw [List.find?_eq_none] at e
    exact absurd hh (by simpa using e y hy)
  | some w => rfl
theorem two_rings {A B tA tB t : List Int} {H : Int → Int} (hn : (A ++ B).Nodup) (hA : TowR tA (tA.map H)) (hB : TowR tB (tB.map H)) (hT : TowR t (t.map H)) (mA : ∀ z, z ∈ tA ↔ z ∈ A) (mB : ∀ z, z ∈ tB ↔ z ∈ B) (mT : ∀ z, z ∈ t ↔ z ∈ A ++ B)
    (rA : ∀ z ∈ A, rotAt tA z = rotAt A z) (rB : ∀ z ∈ B, rotAt tB z = rotAt B z) (rT : ∀ z ∈ A ++ B, rotAt t z = rotAt (A ++ B) z) {z h : Int}
    (hd : lk (linksL t (t.map H)) (z, h) ≠ lk (linksL tB (tB.map H) ++ linksL tA (tA.map H)) (z, h)) : 0 ≤ h ∧ z ∈ t ∧ h < H z ∧ (z = lastHi H A h ∨ z = lastHi H B h) := by
  have hnn := List.nodup_append.1 hn
  rw [lk_app] at hd
  by_cases hz : z ∈ A
  · obtain ⟨u, v, e, hu, _⟩ := ix_split hz
    have hzB : z ∉ B := fun hb => hnn.2.2 z hz z hb rfl
    rw [lk_out hB (fun e => hzB ((mB z).1 e))] at hd
    have r1 : rotAt A z = z :: (v ++ u) := by rw [e]; exact rotAt_mid hu
    have r2 : rotAt (A ++ B) z = z :: (v ++ (B ++ u)) := by
      rw [e, show u ++ z :: v ++ B = u ++ z :: (v ++ B) by simp, rotAt_mid hu]; simp
    rw [lk_links hT ((mT z).2 (List.mem_append.2 (.inl hz))) ((rT z (List.mem_append.2 (.inl hz))).trans r2), lk_links hA ((mA z).2 hz) ((rA z hz).trans r1)] at hd
    by_cases hc : 0 ≤ h ∧ h < H z
    · rw [if_pos hc, if_pos hc] at hd
      refine ⟨hc.1, (mT z).2 (List.mem_append.2 (.inl hz)), hc.2, .inl ?_⟩
      by_cases hv : ∃ y ∈ v, h < H y
      · exact absurd (congrArg some (nx_same (a := B ++ u) (b := u) (x := z) hv)) hd
      · rw [e, lastHi_of hc.2 fun y hy hh => hv ⟨y, hy, hh⟩]
    · rw [if_neg hc, if_neg hc] at hd
      exact absurd rfl hd
  · rw [lk_out hA (fun e => hz ((mA z).1 e))] at hd
    by_cases hzB : z ∈ B
    · obtain ⟨u, v, e, hu, _⟩ := ix_split hzB
      have r1 : rotAt B z = z :: (v ++ u) := by rw [e]; exact rotAt_mid hu
      have r2 : rotAt (A ++ B) z = z :: (v ++ (A ++ u)) := by
        rw [e, show A ++ (u ++ z :: v) = (A ++ u) ++ z :: v by simp, rotAt_mid (by simp [hz, hu])]; rfl
      rw [lk_links hT ((mT z).2 (List.mem_append.2 (.inr hzB))) ((rT z (List.mem_append.2 (.inr hzB))).trans r2), lk_links hB ((mB z).2 hzB) ((rB z hzB).trans r1)] at hd
      by_cases hc : 0 ≤ h ∧ h < H z
      · rw [if_pos hc, if_pos hc] at hd
        refine ⟨hc.1, (mT z).2 (List.mem_append.2 (.inr hzB)), hc.2, .inr ?_⟩
        by_cases hv : ∃ y ∈ v, h < H y
        · exact absurd (congrArg some (nx_same (a := A ++ u) (b := u) (x := z) hv)) hd
        · rw [e, lastHi_of hc.2 fun y hy hh => hv ⟨y, hy, hh⟩]
      · rw [if_neg hc, if_neg hc] at hd
        exact absurd rfl hd
    · rw [lk_out hB (fun e => hzB ((mB z).1 e)), lk_out hT (fun e => by rcases List.mem_append.1 ((mT z).1 e) with e | e; exact hz e; exact hzB e)] at hd
      exact absurd rfl hd
/-- two of each level, at most -/
theorem two_few {A B tA tB t : List Int} {H : Int → Int} (hn : (A ++ B).Nodup) (hA : TowR tA (tA.map H)) (hB : TowR tB (tB.map H)) (hT : TowR t (t.map H)) (mA : ∀ z, z ∈ tA ↔ z ∈ A) (mB : ∀ z, z ∈ tB ↔ z ∈ B) (mT : ∀ z, z ∈ t ↔ z ∈ A ++ B)
    (rA : ∀ z ∈ A, rotAt tA z = rotAt A z) (rB : ∀ z ∈ B, rotAt tB z = rotAt B z) (rT : ∀ z ∈ A ++ B, rotAt t z = rotAt (A ++ B) z) {most : Int} (hm : ∀ z ∈ t, H z ≤ most) :
    chg (linksL t (t.map H)) (linksL tB (tB.map H) ++ linksL tA (tA.map H)) ≤ 2 * most.toNat := by
  have := chg_le (a := linksL t (t.map H)) (b := linksL tB (tB.map H) ++ linksL tA (tA.map H)) (L := (List.range most.toNat).flatMap fun (k : Nat) => [(lastHi H A (k : Int), (k : Int)), (lastHi H B (k : Int), (k : Int))]) (fun s hs => by
    obtain ⟨z, h⟩ := s
    obtain ⟨h1, h2, h3, h4⟩ := two_rings hn hA hB hT mA mB mT rA rB rT hs
    have h5 := hm z h2
    rw [List.mem_flatMap]
    refine ⟨h.toNat, List.mem_range.2 (by omega), ?_⟩
    rw [Int.toNat_of_nonneg h1]
    rcases h4 with e | e
    · simp [← e]
    · simp [← e])
  refine Nat.le_trans this ?_
  rw [List.length_flatMap]
  have : ∀ n : Nat, ((List.range n).map fun (k : Nat) => ([(lastHi H A (k : Int), (k : Int)), (lastHi H B (k : Int), (k : Int))] : List Spot).length).sum = 2 * n := fun n => by
    induction n with
    | zero => rfl
    | succ n ih => rw [List.range_succ, List.map_append, List.sum_append_nat, ih]; simp; omega
  rw [this]
  exact Nat.le_refl _
/-- two rings that were one hold as many links -/
theorem two_count {A B tA tB t : List Int} {H : Int → Int} (hn : (A ++ B).Nodup) (nA : tA.Nodup) (nB : tB.Nodup) (nT : t.Nodup) (mA : ∀ z, z ∈ tA ↔ z ∈ A) (mB : ∀ z, z ∈ tB ↔ z ∈ B) (mT : ∀ z, z ∈ t ↔ z ∈ A ++ B) :
    (linksL tB (tB.map H) ++ linksL tA (tA.map H)).length = (linksL t (t.map H)).length := by
  have hnn := List.nodup_append.1 hn
  have p : (tB ++ tA).Perm t := (List.perm_ext_iff_of_nodup (List.nodup_append.2 ⟨nB, nA, fun x hx y hy e => hnn.2.2 y ((mA y).1 hy) x ((mB x).1 hx) e.symm⟩) nT).2 fun z => by
    rw [List.mem_append, mA, mB, mT, List.mem_append]
    exact Or.comm
  rw [List.length_append, links_count, links_count, links_count, ← (p.map fun z => (H z).toNat).sum_nat, List.map_append, List.sum_append_nat]
end Go.Proofs.Ytggnolfcgaglfaa
