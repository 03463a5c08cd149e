/- Plain arithmetic behind the coin laws: bits, heights, signed numbers, mixing. No program in sight. -/
import Derived.WalkKit
import Derived.Lib.TrailingZeros
set_option linter.unusedVariables false
set_option linter.unusedSimpArgs false
namespace Go.Proofs.YtmijkdlkhakmiaaDoor.coin
open Go

/-- bit i of x; 0 outside 0..31 -/
def bitI (x i : Int) : Int := if i < 0 ∨ 31 < i then 0 else x / 2 ^ i.toNat % 2
/-- the bits of x from bit f on, at most n -/
def bitsI (x f n : Int) : Int := x / 2 ^ f.toNat % 2 ^ (min n.toNat 32)
/-- the lowest m bits with a sign -/
def sgn (x : Int) (m : Nat) : Int := if m = 0 then 0 else if x % 2 ^ m < 2 ^ (m - 1) then x % 2 ^ m else x % 2 ^ m - 2 ^ m
def rot5 (x : Nat) : Nat := x * 32 % 4294967296 + x / 134217728
def mixN (a b : Nat) : Nat := (rot5 a ^^^ b) * 2654435761 % 4294967296
def heightN (x : Nat) : Nat := min (Lib.ctz 32 x + 1) 8

theorem pow_pos' (n : Nat) : (0 : Int) < 2 ^ n := Int.pow_pos (by decide)

theorem and_one (x : Int) (h0 : 0 ≤ x) (h1 : x < 4294967296) : bits .and .u32 x 1 = x % 2 := by
  have := bits_mask .u32 32 (by decide) (fun n a b => by rw [IntKind.wrap_u32]; omega) 1 (by decide) x h0 (by simpa using h1)
  simpa using this

theorem and_mask (x : Int) (n : Nat) (hn : n ≤ 32) (h0 : 0 ≤ x) (h1 : x < 4294967296) : bits .and .u32 x (2 ^ n - 1) = x % 2 ^ n :=
  bits_mask .u32 32 (by decide) (fun n a b => by rw [IntKind.wrap_u32]; omega) n hn x h0 (by simpa using h1)

theorem div_pow_lt (x : Int) (i : Nat) (h0 : 0 ≤ x) (h1 : x < 4294967296) : 0 ≤ x / 2 ^ i ∧ x / 2 ^ i < 4294967296 := by
  have hp := pow_pos' i
  refine ⟨Int.ediv_nonneg h0 (by omega), ?_⟩
  have : x / 2 ^ i ≤ x := Int.ediv_le_self _ h0
  omega

theorem div_pow_zero (x : Int) (i : Nat) (h0 : 0 ≤ x) (h1 : x < 4294967296) (hi : 32 ≤ i) : x / 2 ^ i = 0 := by
  have h2 : (2 : Int) ^ 32 ≤ 2 ^ i := by exact_mod_cast Nat.pow_le_pow_right (by decide) hi
  exact Int.ediv_eq_zero_of_lt h0 (by simp at h2; omega)

theorem div_min (x : Int) (i : Nat) (h0 : 0 ≤ x) (h1 : x < 4294967296) : x / 2 ^ min i 32 = x / 2 ^ i := by
  by_cases h : i ≤ 32
  · rw [Nat.min_eq_left h]
  · rw [Nat.min_eq_right (by omega), div_pow_zero x 32 h0 h1 (by decide), div_pow_zero x i h0 h1 (by omega)]

theorem bitI_eq (x i : Int) (h0 : 0 ≤ x) (h1 : x < 4294967296) (hi : 0 ≤ i) : bitI x i = x / 2 ^ i.toNat % 2 := by
  unfold bitI
  split
  · rename_i h
    rw [div_pow_zero x i.toNat h0 h1 (by omega)]; rfl
  · rfl

theorem bitI_range (x i : Int) (h0 : 0 ≤ x) : 0 ≤ bitI x i ∧ bitI x i ≤ 1 := by
  unfold bitI; split <;> omega

theorem bitsI_range (x f n : Int) (h0 : 0 ≤ x) : 0 ≤ bitsI x f n ∧ bitsI x f n < 4294967296 := by
  unfold bitsI
  have hp := pow_pos' (min n.toNat 32)
  have h2 : (2 : Int) ^ (min n.toNat 32) ≤ 2 ^ 32 := by exact_mod_cast Nat.pow_le_pow_right (by decide) (Nat.min_le_right _ _)
  have := Int.emod_nonneg (x / 2 ^ f.toNat) (show (2 : Int) ^ (min n.toNat 32) ≠ 0 by omega)
  have := Int.emod_lt_of_pos (x / 2 ^ f.toNat) hp
  simp at h2
  omega

/-- one bit more -/
theorem mul_emod_right' (a b u : Int) (hu : 0 < u) : (a * u) % (b * u) = (a % b) * u := by
  rw [Int.mul_comm a, Int.mul_comm b, Int.mul_emod_mul_of_pos _ _ hu, Int.mul_comm]
/-- one bit more, summed -/
theorem mod_succ (y : Int) (k : Nat) : y % 2 ^ (k + 1) = y % 2 ^ k + 2 ^ k * (y / 2 ^ k % 2) := by
  have hp := pow_pos' k
  have hp1 := pow_pos' (k + 1)
  rw [Int.emod_def y (2 ^ (k + 1)), Int.emod_def y (2 ^ k), Int.emod_def (y / 2 ^ k) 2]
  have e : y / 2 ^ (k + 1) = y / 2 ^ k / 2 := by
    rw [Int.pow_succ, Int.ediv_ediv_of_nonneg (by omega)]
  rw [e, Int.pow_succ, Int.mul_sub, Int.mul_assoc]
  omega

theorem div_div_pow (x : Int) (i k : Nat) : x / 2 ^ i / 2 ^ k = x / 2 ^ (i + k) := by
  rw [Int.pow_add, Int.ediv_ediv_of_nonneg (by have := pow_pos' i; omega)]

theorem pow_lt32 (k : Nat) (h : k < 32) : (2 : Int) ^ k ≤ 2147483648 := by
  have : (2 : Int) ^ k ≤ 2 ^ 31 := by exact_mod_cast Nat.pow_le_pow_right (by decide) (show k ≤ 31 by omega)
  simpa using this
theorem pow_le32 (k : Nat) (h : k ≤ 32) : (2 : Int) ^ k ≤ 4294967296 := by
  have : (2 : Int) ^ k ≤ 2 ^ 32 := by exact_mod_cast Nat.pow_le_pow_right (by decide) h
  simpa using this

/-- the step of the reference's loop over bits -/
theorem bits_step (x f : Int) (k : Nat) (h0 : 0 ≤ x) (h1 : x < 4294967296) (hf : 0 ≤ f) (hk : k < 32) :
    (x / 2 ^ f.toNat % 2 ^ k + bitI x (f + k) * 2 ^ k) = x / 2 ^ f.toNat % 2 ^ (k + 1) ∧ 0 ≤ bitI x (f + k) * 2 ^ k ∧ bitI x (f + k) * 2 ^ k < 4294967296 := by
  rw [bitI_eq x _ h0 h1 (by omega), mod_succ, div_div_pow, show (f + (k : Int)).toNat = f.toNat + k by omega, Int.mul_comm]
  have hb : 0 ≤ x / 2 ^ (f.toNat + k) % 2 ∧ x / 2 ^ (f.toNat + k) % 2 ≤ 1 := by omega
  have hp := pow_pos' k
  have hl := pow_lt32 k hk
  refine ⟨rfl, Int.mul_nonneg (by omega) hb.1, ?_⟩
  rcases (show x / 2 ^ (f.toNat + k) % 2 = 0 ∨ x / 2 ^ (f.toNat + k) % 2 = 1 by omega) with h | h <;> rw [h] <;> omega

theorem mod_pow_range (y : Int) (k : Nat) (hk : k ≤ 32) : 0 ≤ y % 2 ^ k ∧ y % 2 ^ k < 2 ^ k ∧ y % 2 ^ k < 4294967296 := by
  have hp := pow_pos' k
  have hl := pow_le32 k hk
  have := Int.emod_nonneg y (show (2 : Int) ^ k ≠ 0 by omega)
  have := Int.emod_lt_of_pos y hp
  omega

theorem sgn_of (x : Int) (m : Nat) (hm : 0 < m) (h0 : 0 ≤ x) (h1 : x < 4294967296) :
    x % 2 ^ (m - 1) - bitI x (m - 1 : Nat) * 2 ^ (m - 1) = sgn x m := by
  obtain ⟨k, rfl⟩ : ∃ k, m = k + 1 := ⟨m - 1, by omega⟩
  simp only [Nat.add_sub_cancel]
  unfold sgn
  rw [bitI_eq x _ h0 h1 (by omega), mod_succ, Int.toNat_natCast, if_neg (by omega), Nat.add_sub_cancel]
  have hp := pow_pos' k
  have := Int.emod_nonneg x (show (2 : Int) ^ k ≠ 0 by omega)
  have := Int.emod_lt_of_pos x hp
  rcases (show x / 2 ^ k % 2 = 0 ∨ x / 2 ^ k % 2 = 1 by omega) with h | h <;> rw [h]
  · rw [if_pos (by omega)]; omega
  · rw [if_neg (by omega), Int.pow_succ]; omega

theorem sgn_range (x : Int) (m : Nat) (hm : m ≤ 32) : -2147483648 ≤ sgn x m ∧ sgn x m ≤ 2147483647 := by
  unfold sgn
  split
  · omega
  · obtain ⟨k, rfl⟩ : ∃ k, m = k + 1 := ⟨m - 1, by omega⟩
    simp only [Nat.add_sub_cancel]
    have hr := mod_pow_range x (k + 1) hm
    have hl := pow_lt32 k (by omega)
    rw [Int.pow_succ] at *
    split <;> omega

/-- the program's signed number: shifted up, then down -/
theorem sgn_shift (x : Int) (m : Nat) (hm : m < 32) (h0 : 0 ≤ x) (h1 : x < 4294967296) :
    IntKind.i32.wrap (x * 2 ^ (32 - m) % 4294967296) / 2 ^ (32 - m) = sgn x m := by
  have e : (4294967296 : Int) = 2 ^ m * 2 ^ (32 - m) := by
    rw [← Int.pow_add, show m + (32 - m) = 32 by omega]; rfl
  have e1 : x * 2 ^ (32 - m) % 4294967296 = (x % 2 ^ m) * 2 ^ (32 - m) := by
    rw [e, mul_emod_right' _ _ _ (pow_pos' _)]
  rw [e1, IntKind.wrap_i32]
  have hu := pow_pos' (32 - m)
  unfold sgn
  by_cases hm0 : m = 0
  · subst hm0; simp [Int.emod_one]
  · rw [if_neg hm0]
    obtain ⟨k, rfl⟩ : ∃ k, m = k + 1 := ⟨m - 1, by omega⟩
    have e2 : (2147483648 : Int) = 2 ^ k * 2 ^ (32 - (k + 1)) := by
      rw [← Int.pow_add, show k + (32 - (k + 1)) = 31 by omega]; rfl
    have e3 : (4294967296 : Int) = 2 ^ (k + 1) * 2 ^ (32 - (k + 1)) := e
    have hr := mod_pow_range x (k + 1) (by omega)
    simp only [Nat.add_sub_cancel]
    generalize x % 2 ^ (k + 1) = r at *
    generalize (2 : Int) ^ (32 - (k + 1)) = u at *
    have e4 : r * u + 2147483648 = (r + 2 ^ k) * u := by rw [e2, Int.add_mul]
    have ep : (2 : Int) ^ (k + 1) = 2 ^ k * 2 := Int.pow_succ 2 k
    have hk := pow_pos' k
    rw [e4, show (4294967296 : Int) = 2 ^ (k + 1) * u from e3, mul_emod_right' _ _ _ hu, e2, ← Int.sub_mul, Int.mul_ediv_cancel _ (by omega)]
    split
    · rw [Int.emod_eq_of_lt (by omega) (by omega)]; omega
    · rw [show r + 2 ^ k = (r - 2 ^ k) + 2 ^ (k + 1) by omega, Int.add_emod_right, Int.emod_eq_of_lt (by omega) (by omega)]; omega

theorem sgn_full (x : Int) (h0 : 0 ≤ x) (h1 : x < 4294967296) : IntKind.i32.wrap x = sgn x 32 := by
  rw [IntKind.wrap_i32]
  unfold sgn
  rw [if_neg (by decide)]
  have : (2 : Int) ^ 32 = 4294967296 := rfl
  have : (2 : Int) ^ (32 - 1) = 2147483648 := rfl
  split <;> omega

/-- heights -/
theorem ctz_low (x : Nat) (h : x < 4294967296) (k : Nat) (hk : k ≤ Lib.ctz 32 x) (hk2 : k ≤ 32) : x % 2 ^ k = 0 := by
  unfold Lib.ctz at hk
  split at hk
  · subst_vars; simp
  · rename_i h0
    obtain ⟨m, hm, _⟩ := Lib.ctzFrom_spec 32 x (by omega) (by simpa using h)
    rw [hm]
    apply Nat.mod_eq_zero_of_dvd
    exact Nat.dvd_trans (Nat.pow_dvd_pow 2 hk) (Nat.dvd_mul_right _ _)

theorem ctz_bit (x : Nat) (h : x < 4294967296) (hc : Lib.ctz 32 x < 32) : x / 2 ^ Lib.ctz 32 x % 2 = 1 := by
  unfold Lib.ctz at hc ⊢
  split at hc
  · omega
  · rename_i h0
    rw [if_neg h0]
    obtain ⟨m, hm, _⟩ := Lib.ctzFrom_spec 32 x (by omega) (by simpa using h)
    have : x / 2 ^ Lib.ctzFrom 32 x = 2 * m + 1 := by
      conv => lhs; lhs; rw [hm]
      exact Nat.mul_div_cancel_left _ (Nat.two_pow_pos _)
    omega

theorem ctz_of_bits (x k : Nat) (h : x < 4294967296) (hk : k < 32) (h0 : x % 2 ^ k = 0) : (x / 2 ^ k % 2 = 1 → Lib.ctz 32 x = k) ∧ (x / 2 ^ k % 2 = 0 → k < Lib.ctz 32 x) := by
  have hle : k ≤ Lib.ctz 32 x := by
    apply Nat.le_of_not_lt
    intro hlt
    have h1 := ctz_bit x h (by omega)
    obtain ⟨d, hd⟩ : ∃ d, k = Lib.ctz 32 x + 1 + d := ⟨k - Lib.ctz 32 x - 1, by omega⟩
    have h2 : x % 2 ^ (Lib.ctz 32 x + 1) = 0 := by
      apply Nat.mod_eq_zero_of_dvd
      refine Nat.dvd_trans (Nat.pow_dvd_pow 2 (show Lib.ctz 32 x + 1 ≤ k by omega)) (Nat.dvd_of_mod_eq_zero h0)
    have h3 : x / 2 ^ Lib.ctz 32 x % 2 = x % 2 ^ (Lib.ctz 32 x + 1) / 2 ^ Lib.ctz 32 x := by
      rw [Nat.pow_succ, Nat.mod_mul_right_div_self]
    rw [h2] at h3
    simp at h3
    omega
  constructor
  · intro h1
    apply Nat.le_antisymm _ hle
    apply Nat.le_of_not_lt
    intro hlt
    have h2 := ctz_low x h (k + 1) (by omega) (by omega)
    have h3 : x / 2 ^ k % 2 = x % 2 ^ (k + 1) / 2 ^ k := by
      rw [Nat.pow_succ, Nat.mod_mul_right_div_self]
    rw [h2] at h3
    simp at h3
    omega
  · intro h1
    rcases Nat.lt_or_ge k (Lib.ctz 32 x) with hlt | hge
    · exact hlt
    · have e : Lib.ctz 32 x = k := by omega
      have h2 := ctz_bit x h (by omega)
      rw [e] at h2
      omega

/-- mixing -/
theorem rot5_lt (x : Nat) (h : x < 4294967296) : rot5 x < 4294967296 := by
  have e : x * 32 % 4294967296 = 32 * (x % 134217728) := by omega
  unfold rot5; omega
theorem rot5_or (x : Nat) (h : x < 4294967296) : (x * 32 % 4294967296) ||| (x / 134217728) = rot5 x := by
  unfold rot5
  have h1 : x * 32 % 4294967296 = 2 ^ 5 * (x * 32 % 4294967296 / 32) := by omega
  rw [h1, ← Nat.two_pow_add_eq_or_of_lt (show x / 134217728 < 2 ^ 5 by omega)]
theorem rot5_inj (x y : Nat) (hx : x < 4294967296) (hy : y < 4294967296) (h : rot5 x = rot5 y) : x = y := by
  have e : ∀ z, z < 4294967296 → rot5 z = 32 * (z % 134217728) + z / 134217728 := by intro z hz; unfold rot5; omega
  rw [e x hx, e y hy] at h; omega
theorem xor_lt (a b : Nat) (ha : a < 4294967296) (hb : b < 4294967296) : a ^^^ b < 4294967296 := Nat.xor_lt_two_pow (n := 32) ha hb
theorem prime_inj (x y : Nat) (hx : x < 4294967296) (hy : y < 4294967296) (h : x * 2654435761 % 4294967296 = y * 2654435761 % 4294967296) : x = y := by
  -- 2654435761 * 244002641 = 1 mod 2^32
  have key : ∀ z, z < 4294967296 → (z * 2654435761 % 4294967296) * 244002641 % 4294967296 = z := by
    intro z hz
    rw [Nat.mod_mul_mod, Nat.mul_assoc, ← Nat.mul_mod_mod]
    simpa using Nat.mod_eq_of_lt hz
  rw [← key x hx, ← key y hy, h]
theorem xor_cancel_right (a b c : Nat) (h : a ^^^ c = b ^^^ c) : a = b := by
  have : (a ^^^ c) ^^^ c = (b ^^^ c) ^^^ c := by rw [h]
  simpa [Nat.xor_assoc] using this
theorem mix_inj_left (a b c : Nat) (ha : a < 4294967296) (hb : b < 4294967296) (hc : c < 4294967296) : mixN a c = mixN b c ↔ a = b := by
  constructor
  · intro h
    unfold mixN at h
    have h1 := prime_inj _ _ (xor_lt _ _ (rot5_lt a ha) hc) (xor_lt _ _ (rot5_lt b hb) hc) h
    exact rot5_inj a b ha hb (xor_cancel_right _ _ _ h1)
  · rintro rfl; rfl
theorem mix_inj_right (a b c : Nat) (ha : a < 4294967296) (hb : b < 4294967296) (hc : c < 4294967296) : mixN c a = mixN c b ↔ a = b := by
  constructor
  · intro h
    unfold mixN at h
    have h1 := prime_inj _ _ (xor_lt _ _ (rot5_lt c hc) ha) (xor_lt _ _ (rot5_lt c hc) hb) h
    rw [Nat.xor_comm, Nat.xor_comm (rot5 c)] at h1
    exact xor_cancel_right _ _ _ h1
  · rintro rfl; rfl
theorem xor_step (a b k : Nat) : (a ^^^ b) % 2 ^ (k + 1) = (a ^^^ b) % 2 ^ k + (if a / 2 ^ k % 2 = b / 2 ^ k % 2 then 0 else 2 ^ k) := by
  have h : (a ^^^ b) % 2 ^ (k + 1) = (a ^^^ b) % 2 ^ k + 2 ^ k * ((a ^^^ b) / 2 ^ k % 2) := by
    rw [Nat.pow_succ, Nat.mod_mul]
  rw [h]
  congr 1
  have hx : (a ^^^ b) / 2 ^ k % 2 = (a / 2 ^ k % 2 + b / 2 ^ k % 2) % 2 := by
    have := Nat.testBit_xor a b k
    simp only [Nat.testBit_eq_decide_div_mod_eq] at this
    rcases Nat.mod_two_eq_zero_or_one (a / 2 ^ k) with h1 | h1 <;> rcases Nat.mod_two_eq_zero_or_one (b / 2 ^ k) with h2 | h2 <;> rcases Nat.mod_two_eq_zero_or_one ((a ^^^ b) / 2 ^ k) with h3 | h3 <;> simp [h1, h2, h3] at this ⊢
  rw [hx]
  rcases Nat.mod_two_eq_zero_or_one (a / 2 ^ k) with h1 | h1 <;> rcases Nat.mod_two_eq_zero_or_one (b / 2 ^ k) with h2 | h2 <;> simp [h1, h2]

theorem parts_sum (x : Int) (n : Nat) (hn : n ≤ 32) (h0 : 0 ≤ x) (h1 : x < 4294967296) :
    bitsI x 0 n = x % 2 ^ n ∧ bitsI x n 32 = x / 2 ^ n ∧ bitsI x 0 n + bitsI x n 32 * 2 ^ n = x ∧ 0 ≤ bitsI x n 32 * 2 ^ n ∧ bitsI x n 32 * 2 ^ n ≤ x := by
  have e1 : bitsI x 0 n = x % 2 ^ n := by unfold bitsI; rw [Int.toNat_natCast, Nat.min_eq_left hn]; simp
  have e2 : bitsI x n 32 = x / 2 ^ n := by
    have hr := div_pow_lt x n h0 h1
    unfold bitsI
    rw [Int.toNat_natCast]
    exact Int.emod_eq_of_lt hr.1 (by simpa using hr.2)
  rw [e1, e2]
  have h3 := Int.emod_add_mul_ediv x (2 ^ n)
  have hp := pow_pos' n
  have := Int.emod_nonneg x (show (2 : Int) ^ n ≠ 0 by omega)
  rw [Int.mul_comm] at h3
  have hd := Int.mul_nonneg (div_pow_lt x n h0 h1).1 (show (0 : Int) ≤ 2 ^ n by omega)
  exact ⟨rfl, rfl, by omega, hd, by omega⟩

theorem parts_bit (x : Int) (k : Nat) (hk : k < 32) (h0 : 0 ≤ x) (h1 : x < 4294967296) : bitsI x k 1 = x % 2 ^ (k + 1) / 2 ^ k := by
  have hp := pow_pos' k
  have hr := mod_pow_range x k (by omega)
  unfold bitsI
  rw [mod_succ, Int.toNat_natCast, Int.add_mul_ediv_left _ _ (by omega), Int.ediv_eq_zero_of_lt hr.1 hr.2.1]
  simp

/-- s is congruent to x's lowest bits -/
theorem sgn_mod (x : Int) (m j : Nat) (hm : 0 < m) (hj : j ≤ m) : sgn x m % 2 ^ j = x % 2 ^ j := by
  obtain ⟨d, rfl⟩ : ∃ d, m = j + d := ⟨m - j, by omega⟩
  have hd : (2 : Int) ^ (j + d) = 2 ^ j * 2 ^ d := Int.pow_add 2 j d
  have hx : x % 2 ^ (j + d) % 2 ^ j = x % 2 ^ j := Int.emod_emod_of_dvd x ⟨_, hd⟩
  unfold sgn
  rw [if_neg (by omega)]
  split
  · exact hx
  · rw [hd, Int.sub_mul_emod_self_left, ← hd, hx]

theorem sgn_up (x : Int) (n : Nat) (hn : 0 < n) (hn2 : n ≤ 32) : sgn x n % 4294967296 * 2 ^ (32 - n) % 4294967296 = x % 2 ^ n * 2 ^ (32 - n) % 4294967296 := by
  have e : (4294967296 : Int) = 2 ^ n * 2 ^ (32 - n) := by
    rw [← Int.pow_add, show n + (32 - n) = 32 by omega]; rfl
  have h1 : sgn x n % 4294967296 * 2 ^ (32 - n) % 4294967296 = (sgn x n % 4294967296 % 2 ^ n) * 2 ^ (32 - n) := by
    conv => lhs; rhs; rw [e]
    rw [mul_emod_right' _ _ _ (pow_pos' _)]
  have h2 : x % 2 ^ n * 2 ^ (32 - n) % 4294967296 = (x % 2 ^ n % 2 ^ n) * 2 ^ (32 - n) := by
    conv => lhs; rhs; rw [e]
    rw [mul_emod_right' _ _ _ (pow_pos' _)]
  rw [h1, h2, Int.emod_emod_of_dvd _ ⟨_, e⟩, sgn_mod x n n hn (Nat.le_refl _), Int.emod_emod]

theorem sgn_again (x : Int) (n m : Nat) (hn : 0 < n) (hnm : n ≤ m) (hm : m ≤ 32) : sgn (sgn x n % 4294967296) m = sgn x n := by
  have hr : -2 ^ (n - 1) ≤ sgn x n ∧ sgn x n < 2 ^ (n - 1) := by
    obtain ⟨k, rfl⟩ : ∃ k, n = k + 1 := ⟨n - 1, by omega⟩
    unfold sgn
    rw [if_neg (by omega)]
    have hr := mod_pow_range x (k + 1) (by omega)
    rw [Int.pow_succ] at *
    simp only [Nat.add_sub_cancel]
    split <;> omega
  have hle : (2 : Int) ^ (n - 1) ≤ 2 ^ (m - 1) := by exact_mod_cast Nat.pow_le_pow_right (by decide) (by omega)
  have e : (4294967296 : Int) = 2 ^ m * 2 ^ (32 - m) := by
    rw [← Int.pow_add, show m + (32 - m) = 32 by omega]; rfl
  have h1 : sgn x n % 4294967296 % 2 ^ m = sgn x n % 2 ^ m := Int.emod_emod_of_dvd _ ⟨_, e⟩
  obtain ⟨k, rfl⟩ : ∃ k, m = k + 1 := ⟨m - 1, by omega⟩
  simp only [Nat.add_sub_cancel] at hle
  generalize sgn x n = s at *
  unfold sgn
  rw [if_neg (by omega), h1]
  simp only [Nat.add_sub_cancel]
  have hp := pow_pos' k
  have hs : (2 : Int) ^ (k + 1) = 2 ^ k * 2 := Int.pow_succ 2 k
  rcases Int.lt_or_le s 0 with h | h
  · have e3 : s % 2 ^ (k + 1) = s + 2 ^ (k + 1) := by
      rw [← Int.add_emod_right s]
      exact Int.emod_eq_of_lt (by omega) (by omega)
    rw [e3, if_neg (by omega)]; omega
  · rw [Int.emod_eq_of_lt h (by omega), if_pos (by omega)]
end Go.Proofs.YtmijkdlkhakmiaaDoor.coin
