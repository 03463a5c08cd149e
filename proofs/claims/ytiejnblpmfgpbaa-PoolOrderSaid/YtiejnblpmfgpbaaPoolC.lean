/- The document's pool: what it computes is what the program does. -/
import Derived.Test.YtiejnblpmfgpbaaPoolB
set_option linter.unusedVariables false
set_option linter.unusedSimpArgs false
namespace Go.Proofs.Ytiejnblpmfgpbaa
open Go Go.RowKit

theorem rright1_loop (N : Nat) (gens free : List Int) (hg : gens.length ≤ 1000) : ∀ (k i m : Nat), i + k = gens.length → k < m →
    l_ref02_Right_1 N m (((gens.length : Nat) : Int), (i : Int), gens, free) = some (if ∀ g ∈ gens.drop i, 0 ≤ g ∧ g ≤ 1073741824 then .inl (((gens.length : Nat) : Int), gens, free) else .inr false)
  | k, i, 0, h1, h2 => by omega
  | 0, i, m + 1, h1, h2 => by
    rw [l_ref02_Right_1_s, cd, if_neg (by omega), List.drop_eq_nil_of_le (by omega), if_pos (by simp)]
  | k + 1, i, m + 1, h1, h2 => by
    obtain ⟨x, hx⟩ := get_at (xs := gens) (i := i) (by omega)
    rw [l_ref02_Right_1_s, cd, if_pos (by omega), nth_of hx, ob, cd, ob, cd, w64n (by omega), rright1_loop N gens free hg k (i + 1) m (by omega) (by omega), drop_at hx]
    simp only [List.forall_mem_cons]
    by_cases c1 : x < 0
    · rw [if_pos c1, if_neg (by omega)]
    by_cases c2 : 1073741824 < x
    · rw [if_neg c1, if_pos c2, if_neg (by omega)]
    · rw [if_neg c1, if_neg c2]
      have c3 : 0 ≤ x ∧ x ≤ 1073741824 := by omega
      simp only [c3, true_and]
/-- met so far -/
def metL (n : Nat) (l : List Int) : List Bool := (List.range n).map fun c : Nat => decide ((c : Int) ∈ l)
theorem metL_get {n : Nat} {l : List Int} {c : Nat} (h : c < n) : (metL n l)[c]? = some (decide ((c : Int) ∈ l)) := by simp [metL, h]
theorem metL_set {n : Nat} {l : List Int} {c : Nat} (h : c < n) : (metL n l).set c true = metL n (l ++ [(c : Int)]) := by
  apply List.ext_getElem
  · simp [metL]
  · intro i h1 h2
    simp [metL] at h1 h2 ⊢
    rw [List.getElem_set]
    by_cases hc : c = i
    · simp [hc]
    · have : ¬ (i : Int) = c := by omega
      simp [hc, this]
theorem rright2_loop (N n : Nat) (gens free : List Int) (hm : free.length ≤ 1000) : ∀ (k i m : Nat), i + k = free.length → k < m → FreeR n (free.take i) →
    l_ref02_Right_2 N m ((n : Int), (i : Int), gens, free, metL n (free.take i)) = some (if FreeR n free then .inl () else .inr false)
  | k, i, 0, h1, h2, hf => by omega
  | 0, i, m + 1, h1, h2, hf => by
    rw [l_ref02_Right_2_s, cd, if_neg (by omega)]
    rw [List.take_of_length_le (by omega)] at hf
    rw [if_pos hf]
  | k + 1, i, m + 1, h1, h2, hf => by
    obtain ⟨x, hx⟩ := get_at (xs := free) (i := i) (by omega)
    rw [l_ref02_Right_2_s, cd, if_pos (by omega), nth_of hx, ob, cd]
    by_cases c1 : x < 0
    · rw [if_pos c1, if_neg (freeR_not hx (.inl c1))]
    rw [if_neg c1, cd]
    by_cases c2 : (n : Int) ≤ x
    · rw [if_pos c2, if_neg (freeR_not hx (.inr (.inl c2)))]
    rw [if_neg c2]
    obtain ⟨c, rfl⟩ : ∃ c : Nat, x = c := ⟨x.toNat, by omega⟩
    have hc : c < n := by omega
    rw [nth_of (metL_get hc), ob, ob, cb]
    by_cases c3 : (c : Int) ∈ free.take i
    · rw [if_pos (by simp [c3]), if_neg (freeR_not hx (.inr (.inr c3)))]
    · rw [if_neg (by simp [c3]), ob, ob, w64n (by omega), Int.toNat_natCast, metL_set hc, ← take_at hx]
      exact rright2_loop N n gens free hm k (i + 1) m (by omega) (by omega) (freeR_next hf hx (by omega) (by omega) c3)
theorem rright_eq (N : Nat) (hN : Fu + 2 ≤ N) (gens free : List Int) (hg : gens.length ≤ 9223372036854775807) (hm : free.length ≤ 9223372036854775807) : m_ref02_Right N (gens, free) = some (rightB gens free) := by
  obtain ⟨N, rfl⟩ : ∃ n, N = n + 1 := ⟨N - 1, by omega⟩
  rw [m_ref02_Right_eq, cd]
  unfold rightB
  by_cases c0 : gens = []
  · subst c0; simp [GensR]
  have c0' : ¬ gens.length = 0 := fun e => c0 (List.length_eq_zero_iff.1 e)
  rw [if_neg (by omega), cd]
  by_cases c1 : 1000 < gens.length
  · rw [if_pos (by omega)]
    have : ¬ GensR gens := fun h => by have := h.2.1; omega
    simp [this]
  rw [if_neg (by omega), cd]
  by_cases c2 : gens.length < free.length
  · rw [if_pos (by omega)]
    have : ¬ FreeR gens.length free := fun h => by have := freeR_len h; omega
    simp [this]
  rw [if_neg (by omega)]
  have h1 := rright1_loop N gens free (by omega) gens.length 0 N (by omega) (by have := Fu_eq; omega)
  rw [show (((0 : Nat) : Int) = 0) from rfl, List.drop_zero] at h1
  rw [h1, ob]
  by_cases c3 : ∀ g ∈ gens, 0 ≤ g ∧ g ≤ 1073741824
  · have hG : GensR gens := ⟨c0, by omega, c3⟩
    rw [if_pos c3]
    simp only []
    have h2 := rright2_loop N gens.length gens free (by omega) free.length 0 N (by omega) (by have := Fu_eq; omega) (by simp [FreeR])
    have e : metL gens.length (free.take 0) = List.replicate gens.length false := by
      apply List.ext_getElem <;> simp [metL]
    rw [e, show (((0 : Nat) : Int) = 0) from rfl] at h2
    rw [mak_of (by omega) (by omega) (by omega), ob, Int.toNat_natCast, h2, ob]
    by_cases hF : FreeR gens.length free <;> simp [hF, hG]
  · have hG : ¬ GensR gens := fun h => c3 h.2.2
    rw [if_neg c3]; simp [hG]
theorem rgood_loop (N : Nat) (gens free : List Int) (c g : Int) (hm : free.length ≤ 1000) : ∀ (k i m : Nat), i + k = free.length → k < m →
    l_ref02_Good_1 N m ((i : Int), gens, free, c, g) = some (if c ∈ free.drop i then .inr false else .inl ())
  | k, i, 0, h1, h2 => by omega
  | 0, i, m + 1, h1, h2 => by
    rw [l_ref02_Good_1_s, cd, if_neg (by omega), List.drop_eq_nil_of_le (by omega)]; simp
  | k + 1, i, m + 1, h1, h2 => by
    obtain ⟨x, hx⟩ := get_at (xs := free) (i := i) (by omega)
    rw [l_ref02_Good_1_s, cd, if_pos (by omega), nth_of hx, ob, cd, w64n (by omega), rgood_loop N gens free c g hm k (i + 1) m (by omega) (by omega), drop_at hx]
    by_cases h : x = c
    · simp [h]
    · have h' : ¬ c = x := fun e => h e.symm
      simp [h, h']
theorem rgood_eq (N : Nat) (hN : Fu + 3 ≤ N) (gens free : List Int) (c g : Int) (hg : gens.length ≤ 9223372036854775807) (hm : free.length ≤ 9223372036854775807) : m_ref02_Good N (gens, free, c, g) = some (goodB gens free c g) := by
  obtain ⟨N, rfl⟩ : ∃ n, N = n + 1 := ⟨N - 1, by omega⟩
  rw [m_ref02_Good_eq, rright_eq N (by omega) gens free hg hm, ob, cb]
  unfold goodB
  by_cases h : rightB gens free = true
  · obtain ⟨l1, l2, -⟩ := right_len h
    simp only [h, Bool.not_true, Bool.false_eq_true, if_false, Bool.true_and]
    rw [cd]
    by_cases h1 : c < 0
    · rw [if_pos h1]; simp [show ¬ 0 ≤ c by omega]
    rw [if_neg h1, cd]
    by_cases h2 : (gens.length : Int) ≤ c
    · rw [if_pos h2]; simp [show ¬ c < gens.length by omega]
    rw [if_neg h2]
    obtain ⟨x, hx, hn⟩ := nth_ex (xs := gens) (j := c) (by omega) (by omega)
    have h3 := rgood_loop N gens free c g l2 free.length 0 N (by omega) (by have := Fu_eq; omega)
    rw [show (((0 : Nat) : Int) = 0) from rfl, List.drop_zero] at h3
    rw [hn, ob, cdn, h3, ob, getD_at hx]
    have e1 : 0 ≤ c := by omega
    have e2 : c < gens.length := by omega
    by_cases h4 : x = g
    · rw [if_pos h4]
      by_cases h5 : c ∈ free <;> simp [h4, h5, e1, e2]
    · rw [if_neg h4]; simp [h4]
  · simp [h]
theorem rtake_eq (N : Nat) (hN : Fu + 3 ≤ N) (gens free : List Int) (hg : gens.length ≤ 9223372036854775807) (hm : free.length ≤ 9223372036854775807) : m_ref02_Take N (gens, free) = some (takeP gens free) := by
  obtain ⟨N, rfl⟩ : ∃ n, N = n + 1 := ⟨N - 1, by omega⟩
  rw [m_ref02_Take_eq, rright_eq N (by omega) gens free hg hm, ob, cb]
  unfold takeP
  by_cases h : rightB gens free = true
  · obtain ⟨l1, l2, -⟩ := right_len h
    simp only [h, Bool.not_true, Bool.false_eq_true, if_false, if_true]
    rw [cd]
    by_cases h0 : free = []
    · subst h0; simp
    have hp : 0 < free.length := List.length_pos_iff.2 h0
    rw [if_neg (by omega), w64 (by omega) (by omega)]
    obtain ⟨c, hc, hc2⟩ := last_at h0
    rw [nth_at hc2 (by omega), ob, hc]
    obtain ⟨c0, c1⟩ := right_cell h (List.mem_of_getElem? hc2)
    obtain ⟨g, hg1, hn⟩ := nth_ex c0 c1
    obtain ⟨g0, g1⟩ := right_gen h hg1
    rw [hn, ob, cd]
    simp only [getD_at hg1]
    by_cases h3 : g = 1073741824
    · rw [if_pos h3, if_pos h3]
    · have hs : (gens.set c.toNat (g + 1))[c.toNat]? = some (g + 1) := by
        rw [List.getElem?_set_self (by omega)]
      rw [if_neg h3, if_neg h3, ob, app_of (by omega) (by simp; omega), ob, sub_take (by omega) (by omega), ob, app_of (by omega) (by simp; omega), ob]
      simp only [List.nil_append]
      rw [hn, ob, ob, ob, ob, w64 (by omega) (by omega), nth_at hs (by omega), ob, ob, List.dropLast_eq_take]
      have e : ((free.length : Int) - 1).toNat = free.length - 1 := by omega
      rw [e]
  · simp [h]
theorem rgive_eq (N : Nat) (hN : Fu + 4 ≤ N) (gens free : List Int) (c g : Int) (hg : gens.length ≤ 9223372036854775807) (hm : free.length ≤ 9223372036854775807) : m_ref02_Give N (gens, free, c, g) = some (giveP gens free c g) := by
  obtain ⟨N, rfl⟩ : ∃ n, N = n + 1 := ⟨N - 1, by omega⟩
  rw [m_ref02_Give_eq, rright_eq N (by omega) gens free hg hm, ob, rgood_eq N (by omega) gens free c g hg hm]
  unfold giveP
  by_cases h : rightB gens free = true
  · obtain ⟨l1, l2, -⟩ := right_len h
    by_cases h2 : goodB gens free c g = true
    · simp only [h, h2, Bool.not_true, cond_false, ob, if_true]
      rw [app_of (by omega) (by simp; omega), ob, List.nil_append, app_of (by omega) (by simp; omega)]; rfl
    · have h2' : goodB gens free c g = false := by simpa using h2
      simp [h, h2', ob]
  · simp [h]
theorem rmake_loop (N n : Nat) (hn : n ≤ 1000) (g : List Int) : ∀ (k m : Nat) (l : List Int), k ≤ n → k < m → l.length = n - k →
    l_ref02_Make_1 N m ((k : Int) - 1, g, l) = some (g, l ++ (upI k).reverse)
  | k, 0, l, h1, h2, hl => by omega
  | 0, m + 1, l, h1, h2, hl => by
    rw [l_ref02_Make_1_s, cd, if_neg (by omega)]; simp [upI]
  | k + 1, m + 1, l, h1, h2, hl => by
    rw [l_ref02_Make_1_s, cd, if_pos (by omega), app_of (by omega) (by simp; omega), ob, w64 (by omega) (by omega)]
    have e : (((k + 1 : Nat) : Int) - 1 - 1) = ((k : Nat) : Int) - 1 := by omega
    have e2 : (((k + 1 : Nat) : Int) - 1) = (k : Int) := by omega
    rw [e, rmake_loop N n hn g k m _ (by omega) (by omega) (by simp; omega), e2]
    simp [upI, List.range_succ]
theorem rmake_eq (N : Nat) (hN : Fu + 1 ≤ N) (n : Int) : m_ref02_Make N n = some (makeP n) := by
  obtain ⟨N, rfl⟩ : ∃ n, N = n + 1 := ⟨N - 1, by omega⟩
  rw [m_ref02_Make_eq, cd, cd]
  unfold makeP
  by_cases h1 : n < 1
  · simp [h1]
  by_cases h2 : 1000 < n
  · simp [h1, h2]
  rw [if_neg h1, if_neg h2, if_neg (by omega), mak_of (by omega) (by omega) (by omega), ob, w64 (by omega) (by omega)]
  obtain ⟨k, rfl⟩ : ∃ k : Nat, n = k := ⟨n.toNat, by omega⟩
  have := rmake_loop N k (by omega) (List.replicate k 0) k N [] (by omega) (by have := Fu_eq; omega) (by simp)
  simp only [Int.toNat_natCast]
  rw [this, ob]
  rfl
theorem rtaken2_loop (N : Nat) (gens free out : List Int) (c : Int) (hm : free.length ≤ 1000) : ∀ (k i m : Nat) (b : Bool), i + k = free.length → k < m →
    l_ref02_Taken_2 N m (c, b, (i : Int), gens, free, out) = some (c, (b || decide (c ∈ free.drop i)), gens, free, out)
  | k, i, 0, b, h1, h2 => by omega
  | 0, i, m + 1, b, h1, h2 => by
    rw [l_ref02_Taken_2_s, cd, if_neg (by omega), List.drop_eq_nil_of_le (by omega)]; simp
  | k + 1, i, m + 1, b, h1, h2 => by
    obtain ⟨x, hx⟩ := get_at (xs := free) (i := i) (by omega)
    rw [l_ref02_Taken_2_s, cd, if_pos (by omega), nth_of hx, ob, w64n (by omega), rtaken2_loop N gens free out c hm k (i + 1) m _ (by omega) (by omega), rtaken2_loop N gens free out c hm k (i + 1) m _ (by omega) (by omega), drop_at hx]
    cases b
    · by_cases h : x = c
      · simp [h]
      · have h' : ¬ c = x := fun e => h e.symm
        simp [h, h']
    · simp
theorem rtaken_loop (N : Nat) (hN : Fu ≤ N) (gens free : List Int) (hg : gens.length ≤ 1000) (hm : free.length ≤ 1000) : ∀ (k i m : Nat) (l : List Int), i + k = gens.length → k < m → l.length ≤ i →
    l_ref02_Taken_1 N m ((i : Int), gens, free, l) = some (l ++ ((List.range' i k).map Int.ofNat).filter (fun c => !decide (c ∈ free)))
  | k, i, 0, l, h1, h2, hl => by omega
  | 0, i, m + 1, l, h1, h2, hl => by
    rw [l_ref02_Taken_1_s, cd, if_neg (by omega)]; simp
  | k + 1, i, m + 1, l, h1, h2, hl => by
    have h3 := rtaken2_loop N gens free l (i : Int) hm free.length 0 N false (by omega) (by have := Fu_eq; omega)
    rw [show (((0 : Nat) : Int) = 0) from rfl, List.drop_zero] at h3
    rw [l_ref02_Taken_1_s, cd, if_pos (by omega), h3, ob, range'_split, List.filter_cons]
    simp only [Bool.false_or]
    rw [w64n (by omega)]
    by_cases h : (i : Int) ∈ free
    · simp only [h, decide_true, Bool.not_true, cond_false]
      rw [rtaken_loop N hN gens free hg hm k (i + 1) m l (by omega) (by omega) (by omega)]
      simp
    · simp only [h, decide_false, Bool.not_false, cond_true]
      rw [app_of (by omega) (by simp; omega), ob, rtaken_loop N hN gens free hg hm k (i + 1) m _ (by omega) (by omega) (by simp; omega)]
      simp
theorem rtaken_eq (N : Nat) (hN : Fu + 3 ≤ N) (gens free : List Int) (hg : gens.length ≤ 9223372036854775807) (hm : free.length ≤ 9223372036854775807) : m_ref02_Taken N (gens, free) = some (takenL gens free) := by
  obtain ⟨N, rfl⟩ : ∃ n, N = n + 1 := ⟨N - 1, by omega⟩
  rw [m_ref02_Taken_eq, rright_eq N (by omega) gens free hg hm, ob, cb]
  unfold takenL
  by_cases h : rightB gens free = true
  · obtain ⟨l1, l2, -⟩ := right_len h
    have := rtaken_loop N (by omega) gens free l1 l2 gens.length 0 N [] (by omega) (by have := Fu_eq; omega) (by simp)
    rw [show (((0 : Nat) : Int) = 0) from rfl] at this
    simp only [h, Bool.not_true, Bool.false_eq_true, if_false, this, ob, if_true]
    rw [List.nil_append, upI_range']
  · simp [h]
theorem same_eq (N : Nat) (hN : Fu + 2 ≤ N) (a a2 b b2 : List Int) (h1 : a.length ≤ 9223372036854775807) (h2 : a2.length ≤ 9223372036854775807) : m_ref02_Same N (a, a2, b, b2) = some (decide (a = b ∧ a2 = b2)) := by
  obtain ⟨N, rfl⟩ : ∃ n, N = n + 1 := ⟨N - 1, by omega⟩
  rw [m_ref02_Same_eq, ints_eq N (by omega) a b h1, ob, cd, ints_eq N (by omega) a2 b2 h2, ob]
  by_cases e : a = b <;> simp [e]
theorem great_eq (N : Nat) (hN : Fu + 2 ≤ N) (a a2 : List Int) : m_ref02_Great N (a, a2) = some (decide (300 < a.length ∨ 300 < a2.length)) := by
  obtain ⟨N, rfl⟩ : ∃ n, N = n + 1 := ⟨N - 1, by omega⟩
  rw [m_ref02_Great_eq, cd]
  by_cases e : 300 < a.length
  · rw [if_pos (by omega)]; simp [e]
  · rw [if_neg (by omega)]; simp [e]; omega
end Go.Proofs.Ytiejnblpmfgpbaa
