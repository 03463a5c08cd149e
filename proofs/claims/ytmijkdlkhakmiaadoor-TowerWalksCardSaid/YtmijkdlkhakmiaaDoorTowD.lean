/- Heights by a script: the program's and the document's, told plainly. -/
import Derived.Test.YtmijkdlkhakmiaaDoorTowC
import Derived.Test.YtmijkdlkhakmiaaDoorCoinMath
set_option linter.unusedVariables false
set_option linter.unusedSimpArgs false
namespace Go.Proofs.YtmijkdlkhakmiaaDoor
open Go Go.RowKit

theorem and_u32_nat (a b : Nat) (ha : a < 4294967296) (hb : b < 4294967296) : bits .and .u32 (a : Int) (b : Int) = ((a &&& b : Nat) : Int) :=
  (bits_nat .u32 32 (by decide) (fun n a b => by rw [IntKind.wrap_u32]; omega) a b (by simpa using ha) (by simpa using hb)).1
theorem tz_idx (x a : Nat) (hx : x < 4294967296) (hx0 : x ≠ 0) (hlow : x &&& (4294967296 - x) = a) :
    Int.fdiv (IntKind.wrap .u32 ((bitI .and .u32 (x : Int) (IntKind.wrap .u32 ((0 : Int) - (x : Int)))) * (125613361 : Int))) ((2 : Int) ^ (min (Int.toNat (27 : Int)) (32 : Nat))) = ((a * 125613361 % 4294967296 / 134217728 : Nat) : Int) := by
  rw [bitI_eq, IntKind.wrap_u32, IntKind.wrap_u32]
  have e1 : ((0 : Int) - (x : Int)) % 4294967296 = ((4294967296 - x : Nat) : Int) := by omega
  have e2 : (2 : Int) ^ (min (Int.toNat (27 : Int)) (32 : Nat)) = 134217728 := by decide
  rw [e1, and_u32_nat x _ hx (by omega), hlow, e2, Int.fdiv_eq_ediv_of_nonneg _ (by omega)]
  omega
def tabI : List Int := [(0 : Int), (1 : Int), (28 : Int), (2 : Int), (29 : Int), (14 : Int), (24 : Int), (3 : Int), (30 : Int), (22 : Int), (20 : Int), (15 : Int), (25 : Int), (17 : Int), (4 : Int), (8 : Int), (31 : Int), (27 : Int), (13 : Int), (23 : Int), (21 : Int), (19 : Int), (16 : Int), (7 : Int), (26 : Int), (12 : Int), (18 : Int), (6 : Int), (11 : Int), (5 : Int), (10 : Int), (9 : Int)]
theorem tabI_eq : tabI = Lib.deBruijn32tab.map fun n : Nat => (n : Int) := rfl
theorem tz_tab (idx c : Nat) (hi : idx < 32) (htab : Lib.deBruijn32tab.getD idx 0 = c) (hc : c < 32) : (obind (nthI (List.range 32) (idx : Int)) fun z1 => obind (nthI tabI (idx : Int)) fun z2 => some (IntKind.wrap .i64 z2)) = some (c : Int) := by
  have e1 : nthI (List.range 32) (idx : Int) = some idx := nth_of (List.getElem?_range hi)
  have e2 : nthI tabI (idx : Int) = some (c : Int) := by
    refine nth_of ?_
    have hl : idx < Lib.deBruijn32tab.length := hi
    rw [List.getD_eq_getElem?_getD, List.getElem?_eq_getElem hl] at htab
    rw [tabI_eq, List.getElem?_map, List.getElem?_eq_getElem hl]
    simp only [Option.getD_some] at htab
    rw [htab]; rfl
  rw [e1, ob, e2, ob, w64 (by omega) (by omega)]
theorem tz_low (x : Nat) (hx : x < 4294967296) (hx0 : x ≠ 0) : ∃ idx : Nat, idx < 32 ∧ Lib.deBruijn32tab.getD idx 0 = Lib.ctz 32 x ∧ Lib.ctz 32 x < 32 ∧ Int.fdiv (IntKind.wrap .u32 ((bitI .and .u32 (x : Int) (IntKind.wrap .u32 ((0 : Int) - (x : Int)))) * (125613361 : Int))) ((2 : Int) ^ (min (Int.toNat (27 : Int)) (32 : Nat))) = (idx : Int) := by
  obtain ⟨hlow, hk⟩ := Lib.lowest_bit 32 x hx0 hx
  obtain ⟨hi, htab⟩ := Lib.deBruijn32_at _ hk
  exact ⟨_, hi, htab, hk, tz_idx x _ hx hx0 hlow⟩
theorem tz_eq (N : Nat) (hN : Fu ≤ N) (x : Nat) (hx : x < 4294967296) : m_math_bits_TrailingZeros32 N (x : Int) = some ((Lib.ctz 32 x : Nat) : Int) := by
  obtain ⟨N, rfl⟩ : ∃ n, N = n + 1 := ⟨N - 1, by have := Fu_eq; omega⟩
  by_cases hx0 : x = 0
  · subst hx0
    have h0 : Lib.ctz 32 0 = 32 := if_pos rfl
    rw [m_math_bits_TrailingZeros32_eq, cd, if_pos (by omega), h0]
    rfl
  · obtain ⟨idx, h1, h2, h3, h4⟩ := tz_low x hx hx0
    rw [m_math_bits_TrailingZeros32_eq, cd, if_neg (by omega), h4]
    exact tz_tab idx _ h1 h2 h3
theorem ctz_le (x : Nat) (hx : x < 4294967296) : Lib.ctz 32 x ≤ 32 := by
  unfold Lib.ctz
  split
  · omega
  · obtain ⟨m, hm, h⟩ := Lib.ctzFrom_spec 32 x (by omega) (by simpa using hx)
    omega
theorem height_eq (N : Nat) (hN : Fu + 1 ≤ N) (x : Nat) (hx : x < 4294967296) : m_coin_Height N (x : Int) = some ((coin.heightN x : Nat) : Int) := by
  obtain ⟨N, rfl⟩ : ∃ n, N = n + 1 := ⟨N - 1, by omega⟩
  have hc := ctz_le x hx
  rw [m_coin_Height_eq, tz_eq N (by omega) x hx, ob, w64 (by omega) (by omega)]
  unfold coin.heightN
  congr 1
  split <;> omega
theorem rbit_eq (N : Nat) (hN : Fu ≤ N) (x k : Nat) (hx : x < 4294967296) (hk : k ≤ 31) : m_ref01_bit N ((x : Int), (k : Int)) = some ((x / 2 ^ k % 2 : Nat) : Int) := by
  obtain ⟨N, rfl⟩ : ∃ n, N = n + 1 := ⟨N - 1, by have := Fu_eq; omega⟩
  have e1 : IntKind.wrap .u64 (k : Int) = (k : Int) := by rw [IntKind.wrap_u64]; omega
  have e2 : shrI .u32 (x : Int) (k : Int) = some ((x / 2 ^ k : Nat) : Int) := by
    unfold shrI
    rw [if_neg (by omega), Int.toNat_natCast, show min k (IntKind.bits .u32) = k from Nat.min_eq_left (by show k ≤ 32; omega), Int.fdiv_eq_ediv_of_nonneg _ (Int.le_of_lt (coin.pow_pos' k))]
    simp
  have e3 : x / 2 ^ k < 4294967296 := Nat.lt_of_le_of_lt (Nat.div_le_self _ _) hx
  rw [m_ref01_bit_eq, cd, if_neg (by omega), cd, if_neg (by omega), e1, e2, ob, bitI_eq, coin.and_one _ (Int.natCast_nonneg _) (Int.ofNat_lt.2 e3)]
  congr 1
theorem rheight_loop (N : Nat) (hN : Fu ≤ N) (x : Nat) (hx : x < 4294967296) : ∀ (q k m : Nat), k + q = 7 → q < m → x % 2 ^ k = 0 →
    l_ref01_Height_1 N m ((x : Int), ((k + 1 : Nat) : Int)) = some ((coin.heightN x : Nat) : Int)
  | q, k, 0, h1, h2, h3 => by omega
  | 0, k, m + 1, h1, h2, h3 => by
    have hk : k = 7 := by omega
    subst hk
    rw [l_ref01_Height_1_s, cd, if_neg (by omega)]
    have hc := coin.ctz_of_bits x 7 hx (by omega) h3
    have h7 : 7 ≤ Lib.ctz 32 x := by
      rcases (show x / 2 ^ 7 % 2 = 0 ∨ x / 2 ^ 7 % 2 = 1 by omega) with h | h
      · have := hc.2 h; omega
      · have := hc.1 h; omega
    congr 1
    unfold coin.heightN
    omega
  | q + 1, k, m + 1, h1, h2, h3 => by
    have hc := coin.ctz_of_bits x k hx (by omega) h3
    rw [l_ref01_Height_1_s, cd, if_pos (by omega), w64 (by omega) (by omega), show ((k + 1 : Nat) : Int) - 1 = (k : Int) by omega, rbit_eq N hN x k hx (by omega), ob, cd, w64n (by omega)]
    rcases (show x / 2 ^ k % 2 = 0 ∨ x / 2 ^ k % 2 = 1 by omega) with h | h
    · rw [if_pos (by omega)]
      refine rheight_loop N hN x hx q (k + 1) m (by omega) (by omega) ?_
      have := coin.mod_succ (x : Int) k
      have : ((x % 2 ^ (k + 1) : Nat) : Int) = ((x % 2 ^ k : Nat) : Int) + ((2 ^ k * (x / 2 ^ k % 2) : Nat) : Int) := by simpa using this
      rw [h3, h] at this
      omega
    · rw [if_neg (by omega)]
      have := hc.1 h
      congr 1
      unfold coin.heightN
      omega
theorem rheight_eq (N : Nat) (hN : Fu + 1 ≤ N) (x : Nat) (hx : x < 4294967296) : m_ref01_Height N (x : Int) = some ((coin.heightN x : Nat) : Int) := by
  obtain ⟨N, rfl⟩ : ∃ n, N = n + 1 := ⟨N - 1, by omega⟩
  rw [m_ref01_Height_eq, show (1 : Int) = ((0 + 1 : Nat) : Int) from rfl, rheight_loop N (by omega) x hx 7 0 N (by omega) (by have := Fu_eq; omega) (by simp [Nat.mod_one])]
  rfl
def Words (l : List Int) : Prop := ∀ x ∈ l, 0 ≤ x ∧ x < 4294967296
def atOf (script : List Int) (i : Int) : Int := if script = [] then 0 else script.getD (i.toNat % script.length) 0
theorem atOf_word {script : List Int} (hw : Words script) (i : Int) : ∃ x : Nat, x < 4294967296 ∧ atOf script i = (x : Int) := by
  have : 0 ≤ atOf script i ∧ atOf script i < 4294967296 := by
    unfold atOf
    split
    · omega
    · rename_i h
      have hl : 0 < script.length := List.length_pos_iff.2 h
      have hm := Nat.mod_lt i.toNat hl
      rw [List.getD_eq_getElem?_getD, List.getElem?_eq_getElem hm]
      exact hw _ (List.getElem_mem hm)
  exact ⟨(atOf script i).toNat, by omega, by omega⟩
theorem at_eq (N : Nat) (hN : Fu ≤ N) (script : List Int) (i : Int) (hi : 0 ≤ i) : m_coin_At N (script, i) = some (atOf script i) := by
  obtain ⟨N, rfl⟩ : ∃ n, N = n + 1 := ⟨N - 1, by have := Fu_eq; omega⟩
  rw [m_coin_At_eq, cd, if_neg (by omega), cd]
  unfold atOf
  by_cases h : script = []
  · subst h; rfl
  have hl : 0 < script.length := List.length_pos_iff.2 h
  have hm := Nat.mod_lt i.toNat hl
  obtain ⟨n, rfl⟩ : ∃ n : Nat, i = (n : Int) := ⟨i.toNat, by omega⟩
  rw [if_neg (by omega), if_neg h, rem_of (by omega), ob, tmod_nat, nth_of (List.getElem?_eq_getElem (by simpa using hm)), ob, List.getD_eq_getElem?_getD, List.getElem?_eq_getElem hm]
  rfl
theorem rat_eq (N : Nat) (hN : Fu ≤ N) (script : List Int) (i : Int) (hi : 0 ≤ i) : m_ref01_At N (script, i) = some (atOf script i) := by
  obtain ⟨N, rfl⟩ : ∃ n, N = n + 1 := ⟨N - 1, by have := Fu_eq; omega⟩
  rw [m_ref01_At_eq, cd, if_neg (by omega), cd]
  unfold atOf
  by_cases h : script = []
  · subst h; rfl
  have hl : 0 < script.length := List.length_pos_iff.2 h
  have hm := Nat.mod_lt i.toNat hl
  obtain ⟨n, rfl⟩ : ∃ n : Nat, i = (n : Int) := ⟨i.toNat, by omega⟩
  rw [if_neg (by omega), if_neg h, rem_of (by omega), ob, tmod_nat, nth_of (List.getElem?_eq_getElem (by simpa using hm)), ob, List.getD_eq_getElem?_getD, List.getElem?_eq_getElem hm]
  rfl
def hgtOf (script : List Int) (t : Int) : Int := if t < 0 then 1 else ((coin.heightN (atOf script t).toNat : Nat) : Int)
theorem heights_loop (N : Nat) (hN : Fu + 1 ≤ N) (script l : List Int) (hw : Words script) (hm : l.length ≤ 10000000000) : ∀ (k i m : Nat), i + k = l.length → k < m →
    l_tower_Heights_1 N m (script, l, ((l.length : Nat) : Int), (i : Int), (l.take i).map (hgtOf script)) = some (l.map (hgtOf script))
  | k, i, 0, h1, h2 => by omega
  | 0, i, m + 1, h1, h2 => by
    rw [l_tower_Heights_1_s, cd, if_neg (by omega), List.take_of_length_le (by omega)]
  | k + 1, i, m + 1, h1, h2 => by
    obtain ⟨x, hx⟩ := get_at (xs := l) (i := i) (by omega)
    have hn : (l.take (i + 1)).map (hgtOf script) = (l.take i).map (hgtOf script) ++ [hgtOf script x] := by rw [take_at hx, List.map_append]; rfl
    have ih := heights_loop N hN script l hw hm k (i + 1) m (by omega) (by omega)
    rw [hn] at ih
    rw [l_tower_Heights_1_s, cd, if_pos (by omega), nth_of hx, ob, cd, w64n (by omega)]
    by_cases h : x < 0
    · rw [if_pos h, app_of (by omega) (by simp; omega), ob]
      rw [show hgtOf script x = 1 from if_pos h] at ih
      exact ih
    · obtain ⟨w, hw1, hw2⟩ := atOf_word hw x
      rw [if_neg h, at_eq N (by omega) script x (by omega), ob, hw2, height_eq N hN w hw1, ob, app_of (by omega) (by simp; omega), ob]
      rw [show hgtOf script x = ((coin.heightN w : Nat) : Int) by unfold hgtOf; rw [if_neg h, hw2, Int.toNat_natCast]] at ih
      exact ih
theorem heights_eq (N : Nat) (hN : Fu + 2 ≤ N) (l script : List Int) (hw : Words script) (hm : l.length ≤ 10000000000) : m_tower_Heights N (l, script) = some (l.map (hgtOf script)) := by
  obtain ⟨N, rfl⟩ : ∃ n, N = n + 1 := ⟨N - 1, by omega⟩
  have := heights_loop N (by omega) script l hw hm l.length 0 N (by omega) (by have := Fu_eq; omega)
  rw [List.take_zero, List.map_nil, show (((0 : Nat) : Int) = 0) from rfl] at this
  rw [m_tower_Heights_eq, this]
  rfl
theorem rheights_loop (N : Nat) (hN : Fu + 1 ≤ N) (script l : List Int) (hw : Words script) (hm : l.length ≤ 10000000000) : ∀ (k i m : Nat), i + k = l.length → k < m →
    l_ref14_Heights_1 N m (l, script, (i : Int), (l.take i).map (hgtOf script)) = some (l.map (hgtOf script))
  | k, i, 0, h1, h2 => by omega
  | 0, i, m + 1, h1, h2 => by
    rw [l_ref14_Heights_1_s, cd, if_neg (by omega), List.take_of_length_le (by omega)]
  | k + 1, i, m + 1, h1, h2 => by
    obtain ⟨x, hx⟩ := get_at (xs := l) (i := i) (by omega)
    have hn : (l.take (i + 1)).map (hgtOf script) = (l.take i).map (hgtOf script) ++ [hgtOf script x] := by rw [take_at hx, List.map_append]; rfl
    have ih := rheights_loop N hN script l hw hm k (i + 1) m (by omega) (by omega)
    rw [hn] at ih
    rw [l_ref14_Heights_1_s, cd, if_pos (by omega), nth_of hx, ob, cd, w64n (by omega)]
    by_cases h : x < 0
    · rw [if_neg (by omega), app_of (by omega) (by simp; omega), ob]
      rw [show hgtOf script x = 1 from if_pos h] at ih
      exact ih
    · obtain ⟨w, hw1, hw2⟩ := atOf_word hw x
      rw [if_pos (by omega), ob, rat_eq N (by omega) script x (by omega), ob, hw2, rheight_eq N hN w hw1, ob, app_of (by omega) (by simp; omega), ob]
      rw [show hgtOf script x = ((coin.heightN w : Nat) : Int) by unfold hgtOf; rw [if_neg h, hw2, Int.toNat_natCast]] at ih
      exact ih
theorem rheights_eq (N : Nat) (hN : Fu + 2 ≤ N) (l script : List Int) (hw : Words script) (hm : l.length ≤ 10000000000) : m_ref14_Heights N (l, script) = some (l.map (hgtOf script)) := by
  obtain ⟨N, rfl⟩ : ∃ n, N = n + 1 := ⟨N - 1, by omega⟩
  have := rheights_loop N (by omega) script l hw hm l.length 0 N (by omega) (by have := Fu_eq; omega)
  rw [List.take_zero, List.map_nil, show (((0 : Nat) : Int) = 0) from rfl] at this
  rw [m_ref14_Heights_eq, this]
  rfl
end Go.Proofs.YtmijkdlkhakmiaaDoor
