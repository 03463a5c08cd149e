/- The pool's functions, and the document's: Good, Taken, Take, Give, Make. -/
import Derived.Test.YtiejnblpmfgpbaaPoolA
set_option linter.unusedVariables false
set_option linter.unusedSimpArgs false
namespace Go.Proofs.Ytiejnblpmfgpbaa
open Go Go.RowKit

theorem nodup_sub {α : Type} [DecidableEq α] : ∀ {l r : List α}, l.Nodup → (∀ x ∈ l, x ∈ r) → l.length ≤ r.length
  | [], r, _, _ => Nat.zero_le _
  | x :: l, r, hn, hs => by
    rw [List.nodup_cons] at hn
    have hx : x ∈ r := hs x (by simp)
    have := nodup_sub (l := l) (r := r.erase x) hn.2 (fun y hy => (List.mem_erase_of_ne (fun e => by subst e; exact hn.1 hy)).2 (hs y (by simp [hy])))
    rw [List.length_erase_of_mem hx] at this
    have : 0 < r.length := List.length_pos_of_mem hx
    simp only [List.length_cons]; omega
def upI (n : Nat) : List Int := (List.range n).map Int.ofNat
theorem upI_len (n : Nat) : (upI n).length = n := by simp [upI]
theorem mem_upI {n : Nat} {x : Int} : x ∈ upI n ↔ 0 ≤ x ∧ x < n := by
  simp only [upI, List.mem_map, List.mem_range]
  constructor
  · rintro ⟨a, ha, rfl⟩; simp; omega
  · rintro ⟨h0, h1⟩; exact ⟨x.toNat, by omega, by simp; omega⟩
theorem freeR_len {n : Nat} {free : List Int} (h : FreeR n free) : free.length ≤ n := by
  have := nodup_sub (r := upI n) h.2 (fun x hx => mem_upI.2 (h.1 x hx))
  rwa [upI_len] at this
theorem right_len {gens free : List Int} (h : rightB gens free = true) : gens.length ≤ 1000 ∧ free.length ≤ 1000 ∧ gens ≠ [] := by
  have := of_decide_eq_true h
  have h2 := freeR_len this.2
  exact ⟨this.1.2.1, by have := this.1.2.1; omega, this.1.1⟩

def goodB (gens free : List Int) (c g : Int) : Bool := rightB gens free && (decide (0 ≤ c) && (decide (c < gens.length) && (decide (gens.getD c.toNat 0 = g) && !decide (c ∈ free))))
theorem getD_at {gens : List Int} {i : Nat} {x : Int} (h : gens[i]? = some x) : gens.getD i 0 = x := by simp [List.getD, h]
theorem good_eq (N : Nat) (hN : Fu + 3 ≤ N) (gens free : List Int) (c g : Int) (hg : gens.length ≤ 9223372036854775807) (hm : free.length ≤ 9223372036854775807) : m_pool_Good N (gens, free, c, g) = some (goodB gens free c g) := by
  obtain ⟨N, rfl⟩ : ∃ n, N = n + 1 := ⟨N - 1, by omega⟩
  rw [m_pool_Good_eq, right_eq N (by omega) gens free hg hm, ob, cb, contains_eq N (by omega) free c hm]
  unfold goodB
  cases rightB gens free
  · simp
  by_cases h1 : 0 ≤ c
  · by_cases h2 : c < gens.length
    · obtain ⟨x, hx, hn⟩ := nth_ex h1 h2
      have hx' : gens[c.toNat]'(by omega) = x := (List.getElem?_eq_some_iff.1 hx).2
      by_cases h3 : x = g <;> simp [cd, h1, h2, hn, ob, hx', h3]
    · simp [cd, h1, h2]
  · simp [cd, h1]
def takenL (gens free : List Int) : List Int := if rightB gens free = true then (upI gens.length).filter (fun c => !decide (c ∈ free)) else []
theorem range'_split (i k : Nat) : (List.range' i (k + 1)).map Int.ofNat = (i : Int) :: (List.range' (i + 1) k).map Int.ofNat := by
  rw [List.range'_succ]; rfl
theorem upI_range' (n : Nat) : upI n = (List.range' 0 n).map Int.ofNat := by rw [upI, List.range_eq_range']
theorem taken_loop (N : Nat) (hN : Fu + 2 ≤ N) (gens free : List Int) (hg : gens.length ≤ 1000) (hm : free.length ≤ 1000) : ∀ (k i m : Nat) (l : List Int), i + k = gens.length → k < m → l.length ≤ i →
    l_pool_Taken_1 N m (((gens.length : Nat) : Int), (i : Int), gens, free, l) = some (l ++ ((List.range' i k).map Int.ofNat).filter (fun c => !decide (c ∈ free)))
  | k, i, 0, l, h1, h2, hl => by omega
  | 0, i, m + 1, l, h1, h2, hl => by
    rw [l_pool_Taken_1_s, cd, if_neg (by omega)]; simp
  | k + 1, i, m + 1, l, h1, h2, hl => by
    rw [l_pool_Taken_1_s, cd, if_pos (by omega), contains_eq N hN free _ (by omega), ob, w64n (by omega), range'_split, List.filter_cons]
    by_cases h : (i : Int) ∈ free
    · simp only [h, decide_true, Bool.not_true, cond_false]
      rw [taken_loop N hN gens free hg hm k (i + 1) m l (by omega) (by omega) (by omega)]
      simp
    · simp only [h, decide_false, Bool.not_false, cond_true]
      rw [app_of (by omega) (by simp; omega), ob, taken_loop N hN gens free hg hm k (i + 1) m _ (by omega) (by omega) (by simp; omega)]
      simp
theorem taken_eq (N : Nat) (hN : Fu + 3 ≤ N) (gens free : List Int) (hg : gens.length ≤ 9223372036854775807) (hm : free.length ≤ 9223372036854775807) : m_pool_Taken N (gens, free) = some (takenL gens free) := by
  obtain ⟨N, rfl⟩ : ∃ n, N = n + 1 := ⟨N - 1, by omega⟩
  rw [m_pool_Taken_eq, right_eq N (by omega) gens free hg hm, ob, cb]
  unfold takenL
  by_cases h : rightB gens free = true
  · obtain ⟨l1, l2, -⟩ := right_len h
    have := taken_loop N (by omega) gens free l1 l2 gens.length 0 N [] (by omega) (by have := Fu_eq; omega) (by simp)
    rw [show (((0 : Nat) : Int) = 0) from rfl] at this
    simp only [h, Bool.not_true, Bool.false_eq_true, if_false, this, ob, if_true]
    rw [List.nil_append, upI_range']
  · simp [h]

def takeP (gens free : List Int) : Int × List Int × List Int × Int × Int :=
  if rightB gens free = true then
    match free.getLast? with
    | none => (2, gens, free, 0, 0)
    | some c => if gens.getD c.toNat 0 = 1073741824 then (2, gens, free, 0, 0) else (0, gens.set c.toNat (gens.getD c.toNat 0 + 1), free.dropLast, c, gens.getD c.toNat 0 + 1)
  else (1, gens, free, 0, 0)
theorem last_at {free : List Int} (h : free ≠ []) : ∃ c, free.getLast? = some c ∧ free[free.length - 1]? = some c := by
  refine ⟨free.getLast h, List.getLast?_eq_some_getLast h, ?_⟩
  rw [← List.getLast?_eq_getElem?]
  exact List.getLast?_eq_some_getLast h
theorem right_cell {gens free : List Int} (h : rightB gens free = true) {c : Int} (hc : c ∈ free) : 0 ≤ c ∧ c < gens.length := (of_decide_eq_true h).2.1 c hc
theorem right_gen {gens free : List Int} (h : rightB gens free = true) {c : Nat} {g : Int} (hc : gens[c]? = some g) : 0 ≤ g ∧ g ≤ 1073741824 := (of_decide_eq_true h).1.2.2 g (List.mem_of_getElem? hc)
theorem clone_eq (N : Nat) (hN : Fu + 1 ≤ N) (xs : List Int) (hm : xs.length ≤ 100000000000) : m_slices_Clone_Lint_int N xs = some xs := by
  obtain ⟨N, rfl⟩ : ∃ n, N = n + 1 := ⟨N - 1, by omega⟩
  rw [m_slices_Clone_Lint_int_eq, cb, app_of (by omega) (by simp; omega)]
  cases xs with
  | nil => exact dem_iff.2 ⟨rfl, rfl⟩
  | cons x xs => rfl
theorem take_eq (N : Nat) (hN : Fu + 3 ≤ N) (gens free : List Int) (hg : gens.length ≤ 9223372036854775807) (hm : free.length ≤ 9223372036854775807) : m_pool_Take N (gens, free) = some (takeP gens free) := by
  obtain ⟨N, rfl⟩ : ∃ n, N = n + 1 := ⟨N - 1, by omega⟩
  rw [m_pool_Take_eq, right_eq N (by omega) gens free hg hm, ob, cb]
  unfold takeP
  by_cases h : rightB gens free = true
  · obtain ⟨l1, l2, -⟩ := right_len h
    simp only [h, Bool.not_true, Bool.false_eq_true, if_false, if_true]
    rw [w64 (by omega) (by omega), cd]
    by_cases h0 : free = []
    · subst h0; simp
    have hp : 0 < free.length := List.length_pos_iff.2 h0
    rw [if_neg (by omega)]
    obtain ⟨c, hc, hc2⟩ := last_at h0
    rw [nth_at hc2 (by omega), ob, hc]
    obtain ⟨c0, c1⟩ := right_cell h (List.mem_of_getElem? hc2)
    obtain ⟨g, hg1, hn⟩ := nth_ex c0 c1
    obtain ⟨g0, g1⟩ := right_gen h hg1
    rw [hn, ob, cd]
    simp only [getD_at hg1]
    by_cases h3 : g = 1073741824
    · rw [if_pos h3, if_pos h3]
    · rw [if_neg h3, if_neg h3, ob, sub_take (by omega) (by omega), ob, clip_eq N (by omega), ob]
      have hs : (gens.set c.toNat (g + 1))[c.toNat]? = some (g + 1) := by
        rw [List.getElem?_set_self (by omega)]
      rw [clone_eq N (by omega) gens (by omega), ob, hn, ob, ob, ob, ob, w64 (by omega) (by omega), nth_at hs (by omega), ob, ob, List.dropLast_eq_take]
      have e : ((free.length : Int) - 1).toNat = free.length - 1 := by omega
      rw [e]
  · simp [h]
def giveP (gens free : List Int) (c g : Int) : Int × List Int × List Int :=
  if rightB gens free = true then (if goodB gens free c g = true then (0, gens, free ++ [c]) else (3, gens, free)) else (1, gens, free)
theorem give_eq (N : Nat) (hN : Fu + 4 ≤ N) (gens free : List Int) (c g : Int) (hg : gens.length ≤ 9223372036854775807) (hm : free.length ≤ 9223372036854775807) : m_pool_Give N (gens, free, c, g) = some (giveP gens free c g) := by
  obtain ⟨N, rfl⟩ : ∃ n, N = n + 1 := ⟨N - 1, by omega⟩
  rw [m_pool_Give_eq, right_eq N (by omega) gens free hg hm, ob, good_eq N (by omega) gens free c g hg hm]
  unfold giveP
  by_cases h : rightB gens free = true
  · obtain ⟨l1, l2, -⟩ := right_len h
    by_cases h2 : goodB gens free c g = true
    · simp only [h, h2, Bool.not_true, cond_false, ob, if_true, clip_eq N (by omega)]
      rw [app_of (by omega) (by simp; omega)]; rfl
    · have h2' : goodB gens free c g = false := by simpa using h2
      simp [h, h2', ob]
  · simp [h]
def makeP (n : Int) : Int × List Int × List Int := if n < 1 ∨ 1000 < n then (1, [], []) else (0, List.replicate n.toNat 0, (upI n.toNat).reverse)
theorem upI_rev (n : Nat) : (upI n).reverse = (List.range n).map fun i : Nat => (n : Int) - 1 - (i : Int) := by
  apply List.ext_getElem
  · simp [upI]
  · intro i h1 h2
    simp [upI] at h1 h2 ⊢
    omega
theorem make_loop (N n : Nat) (hn : n ≤ 1000) (g : List Int) : ∀ (k i m : Nat) (l : List Int), i + k = n → k < m → l.length = i →
    l_pool_Make_1 N m ((n : Int), (n : Int), (i : Int), g, l) = some (g, l ++ (List.range' i k).map fun i : Nat => (n : Int) - 1 - (i : Int))
  | k, i, 0, l, h1, h2, hl => by omega
  | 0, i, m + 1, l, h1, h2, hl => by
    rw [l_pool_Make_1_s, cd, if_neg (by omega)]; simp
  | k + 1, i, m + 1, l, h1, h2, hl => by
    rw [l_pool_Make_1_s, cd, if_pos (by omega), app_of (by omega) (by simp; omega), ob, w64n (by omega), w64 (x := (n : Int) - 1) (by omega) (by omega), w64 (by omega) (by omega)]
    rw [make_loop N n hn g k (i + 1) m _ (by omega) (by omega) (by simp; omega), List.range'_succ]
    simp
theorem make_eq (N : Nat) (hN : Fu + 1 ≤ N) (n : Int) : m_pool_Make N n = some (makeP n) := by
  obtain ⟨N, rfl⟩ : ∃ n, N = n + 1 := ⟨N - 1, by omega⟩
  rw [m_pool_Make_eq, cd, cd]
  unfold makeP
  by_cases h1 : n < 1
  · simp [h1]
  by_cases h2 : 1000 < n
  · simp [h1, h2]
  rw [if_neg h1, if_neg h2, if_neg (by omega), mak_of (by omega) (by omega) (by omega), ob]
  obtain ⟨k, rfl⟩ : ∃ k : Nat, n = k := ⟨n.toNat, by omega⟩
  have := make_loop N k (by omega) (List.replicate k 0) k 0 N [] (by omega) (by have := Fu_eq; omega) rfl
  rw [show (((0 : Nat) : Int) = 0) from rfl] at this
  simp only [Int.toNat_natCast]
  rw [this, ob, upI_rev, List.range_eq_range']
  rfl
end Go.Proofs.Ytiejnblpmfgpbaa
