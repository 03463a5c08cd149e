/- The walks of package coin and of the reference of layer 1: what each function returns. -/
import Derived.Test.YtomeobkobohhjaaDoorBase
import Derived.Test.YtomeobkobohhjaaDoorCoinMath
import Derived.Test.YtomeobkobohhjaaDoorChecked
import Derived.WalkKit
import Derived.WalkSpells
import Derived.WalkLawsBesides
import Derived.Deep.QuietTactic
import Derived.BigQuiet
import Derived.KernelRfl
import Derived.Lib.Hide
set_option linter.unusedVariables false
set_option linter.unusedSimpArgs false
namespace Go.Proofs.YtomeobkobohhjaaDoor.coin
open Go Go.RowKit
set_option maxHeartbeats 400000

theorem u32_bd (x : Int) (h : x < 4294967296) : x ≤ 4294967295 := by omega

theorem halves_any (x : Int) (w : World) (h0 : 0 ≤ x) (h1 : x < 18446744073709551616) :
    Calls Tryd.prog 19 #[.int .u64 x] w fun e w' => e = .returned (.tuple #[.int .u32 (x / 4294967296), .int .u32 (x % 4294967296)]) ∧ w = w' := by
  go_enter Tryd.func19, Tryd.ntmps19
  go_wp2
  go_ret2
  exact ⟨rfl, rfl⟩

theorem rhalves_any (x : Int) (w : World) (h0 : 0 ≤ x) (h1 : x < 18446744073709551616) :
    Calls Tryd.prog 20 #[.int .u64 x] w fun e w' => e = .returned (.tuple #[.int .u32 (x / 4294967296), .int .u32 (x % 4294967296)]) ∧ w = w' := by
  go_enter Tryd.func20, Tryd.ntmps20
  go_wp2
  go_ret2
  exact ⟨rfl, rfl⟩

theorem whole_any (a b : Int) (w : World) (h0 : 0 ≤ a) (h1 : a < 4294967296) (h2 : 0 ≤ b) (h3 : b < 4294967296) :
    Calls Tryd.prog 23 #[.int .u32 a, .int .u32 b] w fun e w' => e = .returned (.int .u64 (a * 4294967296 + b)) ∧ w = w' := by
  have hb : bits .or .u64 (a * 4294967296) b = a * 4294967296 + b :=
    bits_join .u64 64 (by decide) (fun n x y => by rw [IntKind.wrap_u64]; omega) 32 _ b (by omega) (by simp) (by simp; omega) h2 (by simp; omega) (by simp; omega)
  go_enter Tryd.func23, Tryd.ntmps23
  go_wp2
  go_ret
  exact ⟨rfl, rfl⟩

theorem rwhole_any (a b : Int) (w : World) (h0 : 0 ≤ a) (h1 : a < 4294967296) (h2 : 0 ≤ b) (h3 : b < 4294967296) :
    Calls Tryd.prog 24 #[.int .u32 a, .int .u32 b] w fun e w' => e = .returned (.int .u64 (a * 4294967296 + b)) ∧ w = w' := by
  go_enter Tryd.func24, Tryd.ntmps24
  go_wp2
  go_ret
  exact ⟨rfl, rfl⟩

def pickI (x n : Int) : Int := if n < 1 then 0 else x % n
theorem pick_any (x n : Int) (w : World) (h0 : 0 ≤ x) (h1 : x < 4294967296) (h2 : n ≤ 9223372036854775807) :
    Calls Tryd.prog 17 #[.int .u32 x, .int .i64 n] w fun e w' => e = .returned (.int .i64 (pickI x n)) ∧ w = w' := by
  by_cases h : n < 1
  · have HV := Lib.hid (show pickI x n = 0 by unfold pickI; rw [if_pos h])
    go_enter Tryd.func17, Tryd.ntmps17
    go_wp2
    go_ret
    exact ⟨ret_int HV.out.symm, rfl⟩
  · have hr : 0 ≤ x % n ∧ x % n ≤ x := ⟨Int.emod_nonneg _ (by omega), by
      have h1 := Int.emod_add_mul_ediv x n
      have h2 : 0 ≤ n * (x / n) := Int.mul_nonneg (by omega) (Int.ediv_nonneg h0 (by omega))
      omega⟩
    have HV := Lib.hid (show pickI x n = x % n by unfold pickI; rw [if_neg h])
    go_enter Tryd.func17, Tryd.ntmps17
    go_wp2
    go_ret
    exact ⟨ret_int HV.out.symm, rfl⟩
theorem rpick_any (x n : Int) (w : World) (h0 : 0 ≤ x) (h1 : x < 4294967296) (h2 : n ≤ 9223372036854775807) :
    Calls Tryd.prog 18 #[.int .u32 x, .int .i64 n] w fun e w' => e = .returned (.int .i64 (pickI x n)) ∧ w = w' := by
  by_cases h : n < 1
  · have HV := Lib.hid (show pickI x n = 0 by unfold pickI; rw [if_pos h])
    go_enter Tryd.func18, Tryd.ntmps18
    go_wp2
    go_ret
    exact ⟨ret_int HV.out.symm, rfl⟩
  · have hr : 0 ≤ x % n ∧ x % n ≤ x := ⟨Int.emod_nonneg _ (by omega), by
      have h1 := Int.emod_add_mul_ediv x n
      have h2 : 0 ≤ n * (x / n) := Int.mul_nonneg (by omega) (Int.ediv_nonneg h0 (by omega))
      omega⟩
    have HV := Lib.hid (show pickI x n = x % n by unfold pickI; rw [if_neg h])
    go_enter Tryd.func18, Tryd.ntmps18
    go_wp2
    go_ret
    exact ⟨ret_int HV.out.symm, rfl⟩
theorem bit_any (x i : Int) (w : World) (h0 : 0 ≤ x) (h1 : x < 4294967296) (h2 : -9223372036854775808 ≤ i) (h3 : i ≤ 9223372036854775807) :
    Calls Tryd.prog 26 #[.int .u32 x, .int .i64 i] w fun e w' => e = .returned (.int .u32 (bitI x i)) ∧ w = w' := by
  by_cases hi : i < 0 ∨ 31 < i
  · have hv : bitI x i = 0 := by unfold bitI; rw [if_pos hi]
    have HV := Lib.hid hv; clear hv
    by_cases hn : i < 0
    all_goals
      go_enter Tryd.func26, Tryd.ntmps26
      go_wp2
      go_ret
      exact ⟨ret_int HV.out.symm, rfl⟩
  · have hr := div_pow_lt x i.toNat h0 h1
    have hv : bitI x i = x / 2 ^ i.toNat % 2 := by unfold bitI; rw [if_neg hi]
    have HV := Lib.hid hv; clear hv
    have hb := and_one _ hr.1 hr.2
    have hi1 : 0 ≤ i := by omega
    have hi2 : i ≤ 31 := by omega
    clear hi
    go_enter Tryd.func26, Tryd.ntmps26
    go_wp2
    go_ret
    exact ⟨ret_int HV.out.symm, rfl⟩
theorem bits_any (x f n : Int) (w : World) (h0 : 0 ≤ x) (h1 : x < 4294967296) (hf : 0 ≤ f) (hf2 : f ≤ 255) (hn : 0 ≤ n) (hn2 : n ≤ 255) :
    Calls Tryd.prog 13 #[.int .u32 x, .int .u8 f, .int .u8 n] w fun e w' => e = .returned (.int .u32 (bitsI x f n)) ∧ w = w' := by
  have hm := div_min x f.toNat h0 h1
  have hr := div_pow_lt x f.toNat h0 h1
  by_cases h : 32 ≤ n
  · have hv : bitsI x f n = x / 2 ^ f.toNat := by
      unfold bitsI; rw [Nat.min_eq_right (by omega)]
      exact Int.emod_eq_of_lt hr.1 (by simpa using hr.2)
    have HV := Lib.hid hv; clear hv
    go_enter Tryd.func13, Tryd.ntmps13
    go_wp2
    go_ret
    exact ⟨ret_int HV.out.symm, rfl⟩
  · have hp := pow_pos' n.toNat
    have hp2 := pow_lt32 n.toNat (by omega)
    have hv : bitsI x f n = bits .and .u32 (x / 2 ^ f.toNat) ((2 ^ n.toNat - 1) % 4294967296) := by
      symm; rw [Int.emod_eq_of_lt (by omega) (by omega), and_mask _ _ (by omega) hr.1 hr.2]
      unfold bitsI; rw [Nat.min_eq_left (by omega)]
    have HV := Lib.hid hv; clear hv hp hp2
    go_enter Tryd.func13, Tryd.ntmps13
    go_wp2
    go_ret
    exact ⟨ret_int HV.out.symm, rfl⟩
theorem rbits_any (x f n : Int) (w : World) (h0 : 0 ≤ x) (h1 : x < 4294967296) (hf : 0 ≤ f) (hf2 : f ≤ 255) (hn : 0 ≤ n) (hn2 : n ≤ 255) :
    Calls Tryd.prog 14 #[.int .u32 x, .int .u8 f, .int .u8 n] w fun e w' => e = .returned (.int .u32 (bitsI x f n)) ∧ w = w' := by
  go_enter Tryd.func14, Tryd.ntmps14
  go_wp2
  go_loop [7, 8] (fun o i => ∃ k : Nat, k ≤ min n.toNat 32 ∧ i = .int .i64 k ∧ o = .int .u32 (x / 2 ^ f.toNat % 2 ^ k)) (fun _ i => 32 - (intOf i).toNat)
  case atStart => exact ⟨0, Nat.zero_le _, rfl, by simp [Int.emod_one]⟩
  case round =>
    obtain ⟨k, hk, rfl, rfl⟩ := hrel
    by_cases hlt : k < min n.toNat 32
    · have hs := bits_step x f k h0 h1 hf (by omega)
      have hm := mod_pow_range (x / 2 ^ f.toNat) k (by omega)
      have hm2 := mod_pow_range (x / 2 ^ f.toNat) (k + 1) (by omega)
      have HS := Lib.hid hs.1
      have hs2 := hs.2; clear hs
      have hn3 : (k : Int) < n := by omega
      have hk3 : (k : Int) < 32 := by omega
      go_wp2_with (go_at_call 26; refine (bit_any _ _ _ h0 h1 (by omega) (by omega)).mono ?_; rintro e w' ⟨rfl, rfl⟩)
      go_round
      case rel => exact ⟨k + 1, by omega, by go_num, by rw [HS.out, Int.emod_eq_of_lt (by omega) (by omega)]⟩
      case measure => simp [intOf]; omega
    · obtain rfl : k = min n.toNat 32 := by omega
      have HV := Lib.hid (show bitsI x f n = x / 2 ^ f.toNat % 2 ^ (min n.toNat 32) from rfl)
      have hn3 : ¬ ((min n.toNat 32 : Nat) : Int) < n ∨ ¬ ((min n.toNat 32 : Nat) : Int) < 32 := by omega
      generalize min n.toNat 32 = k at *
      by_cases hn4 : (k : Int) < n
      all_goals
        go_wp2
        go_ret
        exact ⟨ret_int HV.out.symm, rfl⟩

theorem signed_any (x n : Int) (w : World) (h0 : 0 ≤ x) (h1 : x < 4294967296) (hn : 0 ≤ n) (hn2 : n ≤ 255) :
    Calls Tryd.prog 15 #[.int .u32 x, .int .u8 n] w fun e w' => e = .returned (.int .i32 (sgn x (min n.toNat 32))) ∧ w = w' := by
  by_cases h : 32 ≤ n
  · have hv := sgn_full x h0 h1
    have HV := Lib.hid (show sgn x (min n.toNat 32) = wrap32 x by rw [← IntWalk.i32_left, hv, Nat.min_eq_right (by omega)])
    clear hv
    go_enter Tryd.func15, Tryd.ntmps15
    go_wp2
    go_ret
    exact ⟨ret_int HV.out.symm, rfl⟩
  · have hv := sgn_shift x n.toNat (by omega) h0 h1
    have e1 : (32 - n).toNat = 32 - n.toNat := by omega
    have e2 : min (32 - n.toNat) 32 = 32 - n.toNat := by omega
    have HV := Lib.hid (show sgn x (min n.toNat 32) = wrap32 (x * 2 ^ (32 - n.toNat) % 4294967296) / 2 ^ (32 - n.toNat) by rw [← IntWalk.i32_left, hv, Nat.min_eq_left (by omega)])
    clear hv
    go_enter Tryd.func15, Tryd.ntmps15
    go_wp2
    go_ret
    exact ⟨ret_int HV.out.symm, rfl⟩

theorem rsigned_lo (x : Int) (m : Nat) (w : World) (h0 : 0 ≤ x) (h1 : x < 4294967296) (hm32 : m < 32) :
    Calls Tryd.prog 16 #[.int .u32 x, .int .u8 ((m : Int) + 1)] w fun e w' => e = .returned (.int .i32 (sgn x (m + 1))) ∧ w = w' := by
  have HV := Lib.hid (sgn_of x (m + 1) (by omega) h0 h1)
  have HR := Lib.hid (sgn_range x (m + 1) (by omega))
  have hzb : ((m : Int) + 1 == 0) = false := beq_eq_false_iff_ne.2 (by omega)
  go_enter Tryd.func16, Tryd.ntmps16
  go_wp2
  go_loop [6, 7] (fun s i => ∃ k : Nat, k ≤ m ∧ i = .int .i64 k ∧ s = .int .i64 (x % 2 ^ k)) (fun _ i => 32 - (intOf i).toNat)
  case atStart => exact ⟨0, Nat.zero_le _, rfl, by simp [Int.emod_one]⟩
  case round =>
    obtain ⟨k, hk, rfl, rfl⟩ := hrel
    have hm := mod_pow_range x k (by omega)
    by_cases hlt : k < m
    · have hs := bits_step x 0 k h0 h1 (by omega) (by omega)
      simp only [Int.zero_add, Int.toNat_zero, Int.pow_zero, Int.ediv_one] at hs
      have hm2 := mod_pow_range x (k + 1) (by omega)
      have HS := Lib.hid hs.1
      have hs2 := hs.2; clear hs
      have hk3 : (k : Int) < m := by omega
      have hb := bitI_range x k h0
      go_wp2_with (go_at_call 26; refine (bit_any _ _ _ h0 h1 (by omega) (by omega)).mono ?_; rintro e w' ⟨rfl, rfl⟩)
      go_round
      case rel => exact ⟨k + 1, by omega, by go_num, by rw [HS.out]⟩
      case measure => simp [intOf]; omega
    · obtain rfl : m = k := by omega
      have hb := bitI_range x (m : Nat) h0
      have hl := pow_lt32 m (by omega)
      have hp := pow_pos' m
      have hb2 : 0 ≤ bitI x (m : Nat) * 2 ^ m ∧ bitI x (m : Nat) * 2 ^ m ≤ 2147483648 := by
        rcases (show bitI x (m : Nat) = 0 ∨ bitI x (m : Nat) = 1 by omega) with h | h <;> rw [h] <;> omega
      go_wp2_with (go_at_call 26; refine (bit_any _ _ _ h0 h1 (by omega) (by omega)).mono ?_; rintro e w' ⟨rfl, rfl⟩)
      go_ret
      exact ⟨ret_int HV.out, rfl⟩

theorem rsigned_hi (x : Int) (n : Int) (w : World) (h0 : 0 ≤ x) (h1 : x < 4294967296) (hn : 33 ≤ n) (hn2 : n ≤ 255) :
    Calls Tryd.prog 16 #[.int .u32 x, .int .u8 n] w fun e w' => e = .returned (.int .i32 (sgn x (31 + 1))) ∧ w = w' := by
  have HV := Lib.hid (sgn_of x (31 + 1) (by omega) h0 h1)
  have HR := Lib.hid (sgn_range x (31 + 1) (by omega))
  have hzb : (n == 0) = false := beq_eq_false_iff_ne.2 (by omega)
  go_enter Tryd.func16, Tryd.ntmps16
  go_wp2
  go_loop [6, 7] (fun s i => ∃ k : Nat, k ≤ 31 ∧ i = .int .i64 k ∧ s = .int .i64 (x % 2 ^ k)) (fun _ i => 32 - (intOf i).toNat)
  case atStart => exact ⟨0, Nat.zero_le _, rfl, by simp [Int.emod_one]⟩
  case round =>
    obtain ⟨k, hk, rfl, rfl⟩ := hrel
    have hm := mod_pow_range x k (by omega)
    by_cases hlt : k < 31
    · have hs := bits_step x 0 k h0 h1 (by omega) (by omega)
      simp only [Int.zero_add, Int.toNat_zero, Int.pow_zero, Int.ediv_one] at hs
      have hm2 := mod_pow_range x (k + 1) (by omega)
      have HS := Lib.hid hs.1
      have hs2 := hs.2; clear hs
      have hk3 : (k : Int) < 31 := by omega
      have hb := bitI_range x k h0
      go_wp2_with (go_at_call 26; refine (bit_any _ _ _ h0 h1 (by omega) (by omega)).mono ?_; rintro e w' ⟨rfl, rfl⟩)
      go_round
      case rel => exact ⟨k + 1, by omega, by go_num, by rw [HS.out]⟩
      case measure => simp [intOf]; omega
    · obtain rfl : k = 31 := by omega
      have hb : 0 ≤ bitI x 31 ∧ bitI x 31 ≤ 1 := bitI_range x 31 h0
      have hm' : 0 ≤ x % 2147483648 ∧ x % 2147483648 < 2147483648 := by omega
      clear hm
      have HV' : Hid (x % 2147483648 - bitI x 31 * 2147483648 = sgn x 32) := Lib.hid (by simpa using HV.out)
      go_wp2_with (go_at_call 26; refine (bit_any _ _ _ h0 h1 (by omega) (by omega)).mono ?_; rintro e w' ⟨rfl, rfl⟩)
      go_ret
      exact ⟨ret_int HV'.out, rfl⟩

theorem rsigned_any (x n : Int) (w : World) (h0 : 0 ≤ x) (h1 : x < 4294967296) (hn : 0 ≤ n) (hn2 : n ≤ 255) :
    Calls Tryd.prog 16 #[.int .u32 x, .int .u8 n] w fun e w' => e = .returned (.int .i32 (sgn x (min n.toNat 32))) ∧ w = w' := by
  by_cases hz : n = 0
  · subst hz
    go_enter Tryd.func16, Tryd.ntmps16
    go_wp2
    go_ret
    exact ⟨ret_int rfl, rfl⟩
  · by_cases h : n ≤ 32
    · obtain ⟨m, rfl⟩ : ∃ m : Nat, n = (m : Int) + 1 := ⟨n.toNat - 1, by omega⟩
      rw [show min ((m : Int) + 1).toNat 32 = m + 1 by omega]
      exact rsigned_lo x m w h0 h1 (by omega)
    · rw [show min n.toNat 32 = 31 + 1 by omega]
      exact rsigned_hi x n w h0 h1 (by omega) hn2

theorem tz_core (x k idx : Nat) (w : World) (hx0 : ((x : Int) == 0) = false)
    (key : bits BinOp.and IntKind.u32 (x : Int) (-(x : Int) % 4294967296) * 125613361 % 4294967296 / 134217728 = (idx : Int))
    (hi : idx < 32) (hk : k < 32) (hcell : w.cell? ⟨0, idx, none⟩ = some (.int .u8 k)) :
    Calls Tryd.prog 25 #[.int .u32 x] w fun e w' => e = .returned (.int .i64 k) ∧ w = w' := by
  go_enter Tryd.func25, Tryd.ntmps25
  go_wp2_with (simp only [key])
  go_ret
  exact ⟨rfl, rfl⟩
theorem tz_zero (w : World) :
    Calls Tryd.prog 25 #[.int .u32 0] w fun e w' => e = .returned (.int .i64 32) ∧ w = w' := by
  go_enter Tryd.func25, Tryd.ntmps25
  go_wp2
  go_ret
  exact ⟨rfl, rfl⟩
theorem and_u32_nat (a b : Nat) (ha : a < 4294967296) (hb : b < 4294967296) : bits .and .u32 (a : Int) (b : Int) = ((a &&& b : Nat) : Int) :=
  (bits_nat .u32 32 (by decide) (fun n a b => by rw [IntKind.wrap_u32]; omega) a b (by simpa using ha) (by simpa using hb)).1
theorem tz32_key (x a : Nat) (hx : x < 4294967296) (hx0 : x ≠ 0) (hlow : x &&& (4294967296 - x) = a) :
    bits BinOp.and IntKind.u32 (x : Int) (-(x : Int) % 4294967296) * 125613361 % 4294967296 / 134217728 = ((a * 125613361 % 4294967296 / 134217728 : Nat) : Int) := by
  have e1 : -(x : Int) % 4294967296 = ((4294967296 - x : Nat) : Int) := by omega
  rw [e1, and_u32_nat x _ hx (by omega), hlow]
  omega
def Tab (w : World) : Prop := ∀ j, j < 32 → w.cell? ⟨0, j, none⟩ = some (.int .u8 (Lib.deBruijn32tab.getD j 0))
theorem tz_any (x : Nat) (w : World) (hx : x < 4294967296) (hT : Tab w) :
    Calls Tryd.prog 25 #[.int .u32 x] w fun e w' => e = .returned (.int .i64 (Lib.ctz 32 x)) ∧ w = w' := by
  by_cases hx0 : x = 0
  · subst hx0
    exact tz_zero w
  · obtain ⟨hlow, hk⟩ := Lib.lowest_bit 32 x hx0 hx
    obtain ⟨hi, htab⟩ := Lib.deBruijn32_at _ hk
    have hcell := hT _ hi
    rw [htab] at hcell
    exact tz_core x _ _ w (by simp; omega) (tz32_key x _ hx hx0 hlow) hi hk hcell
theorem ctz_le (x : Nat) (hx : x < 4294967296) : Lib.ctz 32 x ≤ 32 := by
  unfold Lib.ctz
  split
  · omega
  · obtain ⟨m, hm, h⟩ := Lib.ctzFrom_spec 32 x (by omega) (by simpa using hx)
    omega
theorem height_any (x : Nat) (w : World) (hx : x < 4294967296) (hT : Tab w) :
    Calls Tryd.prog 11 #[.int .u32 x] w fun e w' => e = .returned (.int .i64 (heightN x)) ∧ w = w' := by
  have hc := ctz_le x hx
  have ht := Lib.hid hT
  clear hT
  unfold heightN
  generalize hz : Lib.ctz 32 x = c at *
  have HZ := Lib.hid hz; clear hz
  by_cases h8 : c + 1 ≤ 8
  · have HV := Lib.hid (show min (c + 1) 8 = c + 1 by omega)
    go_enter Tryd.func11, Tryd.ntmps11
    go_wp2_with (go_at_call 25; refine (tz_any _ _ hx ht.out).mono ?_; rintro e w' ⟨rfl, rfl⟩; rw [HZ.out])
    go_ret
    exact ⟨ret_int (by rw [HV.out]; rfl), rfl⟩
  · have HV := Lib.hid (show min (c + 1) 8 = 8 by omega)
    go_enter Tryd.func11, Tryd.ntmps11
    go_wp2_with (go_at_call 25; refine (tz_any _ _ hx ht.out).mono ?_; rintro e w' ⟨rfl, rfl⟩; rw [HZ.out])
    go_ret
    exact ⟨ret_int (by rw [HV.out]; rfl), rfl⟩
theorem rheight_any (x : Nat) (w : World) (hx : x < 4294967296) :
    Calls Tryd.prog 12 #[.int .u32 x] w fun e w' => e = .returned (.int .i64 (heightN x)) ∧ w = w' := by
  go_enter Tryd.func12, Tryd.ntmps12
  go_wp2
  go_loop [3] (fun n => ∃ k : Nat, k ≤ 7 ∧ n = .int .i64 (k + 1) ∧ x % 2 ^ k = 0) (fun n => 8 - (intOf n).toNat)
  case atStart => exact ⟨0, by omega, rfl, by simp [Nat.mod_one]⟩
  case round =>
    obtain ⟨k, hk, rfl, hm⟩ := hrel
    by_cases h7 : k < 7
    · have hc := ctz_of_bits x k hx (by omega) hm
      have hm2 := mod_succ (x : Int) k
      have hb := bitI_eq x k (by omega) (by omega) (by omega)
      have hb' : bitI x k = ((x / 2 ^ k % 2 : Nat) : Int) := by rw [hb]; simp
      clear hb
      have HB := Lib.hid hb'; clear hb'
      have HM := Lib.hid hm; clear hm
      have HM2 := Lib.hid hm2; clear hm2
      have HC := Lib.hid hc; clear hc
      rcases (show x / 2 ^ k % 2 = 0 ∨ x / 2 ^ k % 2 = 1 by omega) with h | h
      · have H := Lib.hid h; clear h
        go_wp2_with (go_at_call 26; refine (bit_any _ _ _ (by omega) (by omega) (by omega) (by omega)).mono ?_; rintro e w' ⟨rfl, rfl⟩; rw [HB.out, H.out])
        go_round
        case rel => exact ⟨k + 1, by omega, by go_num, by
          have := HM2.out
          have e1 := HM.out
          have e2 := H.out
          have : ((x % 2 ^ (k + 1) : Nat) : Int) = ((x % 2 ^ k : Nat) : Int) + ((2 ^ k * (x / 2 ^ k % 2) : Nat) : Int) := by simpa using this
          rw [e1, e2] at this
          omega⟩
        case measure => simp [intOf]; omega
      · have H := Lib.hid h; clear h
        go_wp2_with (go_at_call 26; refine (bit_any _ _ _ (by omega) (by omega) (by omega) (by omega)).mono ?_; rintro e w' ⟨rfl, rfl⟩; rw [HB.out, H.out])
        go_ret
        exact ⟨ret_int (by rw [heightN, HC.out.1 H.out]; omega), rfl⟩
    · obtain rfl : k = 7 := by omega
      have hc : 7 ≤ Lib.ctz 32 x := by
        have hc := ctz_of_bits x 7 hx (by omega) hm
        rcases (show x / 2 ^ 7 % 2 = 0 ∨ x / 2 ^ 7 % 2 = 1 by omega) with h | h
        · have := hc.2 h; omega
        · have := hc.1 h; omega
      have HV := Lib.hid (show heightN x = 8 by unfold heightN; omega)
      clear hm hc
      go_wp2
      go_ret
      exact ⟨ret_int (by rw [HV.out]; rfl), rfl⟩
theorem or_u32_nat (a b : Nat) (ha : a < 4294967296) (hb : b < 4294967296) : bits .or .u32 (a : Int) (b : Int) = ((a ||| b : Nat) : Int) :=
  (bits_nat .u32 32 (by decide) (fun n a b => by rw [IntKind.wrap_u32]; omega) a b (by simpa using ha) (by simpa using hb)).2
theorem xor_u32_nat (a b : Nat) (ha : a < 4294967296) (hb : b < 4294967296) : bits .xor .u32 (a : Int) (b : Int) = ((a ^^^ b : Nat) : Int) := by
  have hx := xor_lt a b ha hb
  simp only [bits, BitVec.ofInt_natCast, BitVec.toNat_xor, BitVec.toNat_ofNat]
  simp only [IntKind.bits]
  rw [Nat.mod_eq_of_lt (by simpa using ha), Nat.mod_eq_of_lt (by simpa using hb), IntKind.wrap_u32]
  omega
theorem rot_any (x : Nat) (w : World) (h1 : x < 4294967296) :
    Calls Tryd.prog 27 #[.int .u32 x, .int .i64 5] w fun e w' => e = .returned (.int .u32 (rot5 x : Nat)) ∧ w = w' := by
  have h5 : bits .and .u64 5 31 = 5 := by decide
  have ho := or_u32_nat (x * 32 % 4294967296) (x / 134217728) (by omega) (by omega)
  rw [rot5_or x h1] at ho
  have ho' : bits .or .u32 ((x : Int) * 32 % 4294967296) ((x : Int) / 134217728) = ((rot5 x : Nat) : Int) := by simpa using ho
  clear ho
  have HO := Lib.hid ho'; clear ho'
  go_enter Tryd.func27, Tryd.ntmps27
  go_wp2
  go_ret
  exact ⟨ret_int HO.out, rfl⟩
theorem mix_any (a b : Nat) (w : World) (h1 : a < 4294967296) (h2 : b < 4294967296) :
    Calls Tryd.prog 21 #[.int .u32 a, .int .u32 b] w fun e w' => e = .returned (.int .u32 (mixN a b : Nat)) ∧ w = w' := by
  have hr := rot5_lt a h1
  have hx := xor_lt _ _ hr h2
  have ho := xor_u32_nat (rot5 a) b hr h2
  have HO := Lib.hid ho; clear ho
  have HM := Lib.hid (show ((rot5 a ^^^ b : Nat) : Int) * 2654435761 % 4294967296 = ((mixN a b : Nat) : Int) by unfold mixN; simp)
  go_enter Tryd.func21, Tryd.ntmps21
  go_wp2_with (go_at_call 27; refine (rot_any _ _ h1).mono ?_; rintro e w' ⟨rfl, rfl⟩)
  go_ret
  exact ⟨ret_int (by rw [HO.out]; exact HM.out), rfl⟩
theorem rmix_any (a b : Nat) (w : World) (h1 : a < 4294967296) (h2 : b < 4294967296) :
    Calls Tryd.prog 22 #[.int .u32 a, .int .u32 b] w fun e w' => e = .returned (.int .u32 (mixN a b : Nat)) ∧ w = w' := by
  have hr := rot5_lt a h1
  have HR := Lib.hid (show (a : Int) * 32 % 4294967296 + (a : Int) / 134217728 = ((rot5 a : Nat) : Int) by unfold rot5; simp)
  go_enter Tryd.func22, Tryd.ntmps22
  go_wp2
  rw [HR.out]
  generalize hrr : rot5 a = r at *
  have HRR := Lib.hid hrr; clear hrr
  go_loop [6, 7] (fun s i => ∃ k : Nat, k ≤ 32 ∧ i = .int .i64 k ∧ s = .int .u64 ((r ^^^ b) % 2 ^ k : Nat)) (fun _ i => 32 - (intOf i).toNat)
  case atStart => exact ⟨0, Nat.zero_le _, rfl, by simp [Nat.mod_one]⟩
  case round =>
    obtain ⟨k, hk, rfl, rfl⟩ := hrel
    by_cases hlt : k < 32
    · have hs := xor_step r b k
      have hk3 : (k : Int) < 32 := by omega
      have e1 := bitI_eq (r : Int) k (by omega) (by omega) (by omega)
      have e2 := bitI_eq (b : Int) k (by omega) (by omega) (by omega)
      have hq : bitI r k = bitI b k ↔ r / 2 ^ k % 2 = b / 2 ^ k % 2 := by
        rw [e1, e2]
        simp only [Int.toNat_natCast]
        norm_cast
      have hl := pow_lt32 k hlt
      have hp := pow_pos' k
      have hl' : 2 ^ k ≤ 2147483648 := by have := Nat.pow_le_pow_right (show 0 < 2 by decide) (show k ≤ 31 by omega); exact this
      have hb1 := bitI_range r k (by omega)
      have hb2 := bitI_range b k (by omega)
      have hmm : (r ^^^ b) % 2 ^ k < 2 ^ k := Nat.mod_lt _ (Nat.two_pow_pos k)
      have HS := Lib.hid hs; clear hs e1 e2
      by_cases hc : r / 2 ^ k % 2 = b / 2 ^ k % 2
      · rw [if_pos hc] at HS
        have hqf : (bitI r k != bitI b k) = false := bne_eq_false_iff_eq.2 (hq.2 hc)
        clear hq hc
        go_wp2_with (go_at_call 26; refine (bit_any _ _ _ (by omega) (by omega) (by omega) (by omega)).mono ?_; rintro e w' ⟨rfl, rfl⟩)
        go_round
        case rel => exact ⟨k + 1, by omega, by go_num, by rw [HS.out]; rfl⟩
        case measure => simp [intOf]; omega
      · rw [if_neg hc] at HS
        have hqf : (bitI r k != bitI b k) = true := bne_iff_ne.2 (fun h => hc (hq.1 h))
        clear hq hc
        go_wp2_with (go_at_call 26; refine (bit_any _ _ _ (by omega) (by omega) (by omega) (by omega)).mono ?_; rintro e w' ⟨rfl, rfl⟩)
        go_round
        case rel => exact ⟨k + 1, by omega, by go_num, by rw [HS.out]; simp⟩
        case measure => simp [intOf]; omega
    · obtain rfl : k = 32 := by omega
      have hlt2 := xor_lt r b hr h2
      have HX := Lib.hid (show (r ^^^ b) % 2 ^ 32 = r ^^^ b from Nat.mod_eq_of_lt (by simpa using hlt2))
      rw [HX.out]
      have HM := Lib.hid (show ((r ^^^ b : Nat) : Int) * 2654435761 % 4294967296 = ((mixN a b : Nat) : Int) by unfold mixN; rw [HRR.out]; simp)
      generalize r ^^^ b = z at *
      go_wp2
      go_ret
      exact ⟨ret_int HM.out, rfl⟩

/-- a script as the walk reads it: nil, or at an address with its words -/
def Script (w : World) (v : Value) (l : List Nat) : Prop := ∃ a c, v = .slice a l.length c ∧ l.length ≤ 9223372036854775807 ∧ (∀ x ∈ l, x < 4294967296) ∧
  (l ≠ [] → ∃ b o, a = some ⟨b, o, none⟩ ∧ ∀ i, i < l.length → w.cell? ⟨b, o + i, none⟩ = some (.int .u32 (l.getD i 0 : Nat)))
def atN (l : List Nat) (i : Int) : Nat := if i < 0 ∨ l = [] then 0 else l.getD (i.toNat % l.length) 0
theorem atN_lt (l : List Nat) (i : Int) (h : ∀ x ∈ l, x < 4294967296) : atN l i < 4294967296 := by
  unfold atN
  split
  · omega
  · rename_i hh
    have hl : 0 < l.length := by
      cases l with
      | nil => simp at hh
      | cons => simp
    have := Nat.mod_lt i.toNat hl
    rw [List.getD_eq_getElem?_getD, List.getElem?_eq_getElem this]
    exact h _ (List.getElem_mem _)
theorem at_any (v : Value) (l : List Nat) (i : Int) (w : World) (hs : Script w v l) (h1 : -9223372036854775808 ≤ i) (h2 : i ≤ 9223372036854775807) :
    Calls Tryd.prog 9 #[v, .int .i64 i] w fun e w' => e = .returned (.int .u32 (atN l i : Nat)) ∧ w = w' := by
  obtain ⟨a, c, rfl, hm, hx, hc⟩ := hs
  by_cases hi : i < 0
  · have HV := Lib.hid (show atN l i = 0 by unfold atN; rw [if_pos (.inl hi)])
    clear hx hc
    go_enter Tryd.func9, Tryd.ntmps9
    go_wp2
    go_ret
    exact ⟨ret_int (by rw [HV.out]; rfl), rfl⟩
  · by_cases hl : l = []
    · subst hl
      have HV := Lib.hid (show atN [] i = 0 by unfold atN; rw [if_pos (.inr rfl)])
      clear hx hc
      go_enter Tryd.func9, Tryd.ntmps9
      go_wp2
      go_ret
      exact ⟨ret_int (by rw [HV.out]; rfl), rfl⟩
    · obtain ⟨b, o, rfl, hcell⟩ := hc hl
      have hpos : 0 < l.length := List.length_pos_iff.2 hl
      obtain ⟨n, rfl⟩ := Int.eq_ofNat_of_zero_le (show 0 ≤ i by omega)
      have hlt := Nat.mod_lt n hpos
      have HV := Lib.hid (show atN l n = l.getD (n % l.length) 0 by unfold atN; rw [if_neg (by simp [hl])]; rfl)
      have hcc := hcell _ hlt
      have hb : ((l.length : Int) == 0) = false := beq_eq_false_iff_ne.2 (by omega)
      clear hcell hx hl hc
      go_enter Tryd.func9, Tryd.ntmps9
      go_wp2
      go_ret
      exact ⟨ret_int (by rw [HV.out, List.getD_eq_getElem?_getD, List.getElem?_eq_getElem hlt]; rfl), rfl⟩
theorem rat_any (v : Value) (l : List Nat) (i : Int) (w : World) (hs : Script w v l) (h1 : -9223372036854775808 ≤ i) (h2 : i ≤ 9223372036854775807) :
    Calls Tryd.prog 10 #[v, .int .i64 i] w fun e w' => e = .returned (.int .u32 (atN l i : Nat)) ∧ w = w' := by
  obtain ⟨a, c, rfl, hm, hx, hc⟩ := hs
  by_cases hi : i < 0
  · have HV := Lib.hid (show atN l i = 0 by unfold atN; rw [if_pos (.inl hi)])
    clear hx hc
    go_enter Tryd.func10, Tryd.ntmps10
    go_wp2
    go_ret
    exact ⟨ret_int (by rw [HV.out]; rfl), rfl⟩
  · by_cases hl : l = []
    · subst hl
      have HV := Lib.hid (show atN [] i = 0 by unfold atN; rw [if_pos (.inr rfl)])
      clear hx hc
      go_enter Tryd.func10, Tryd.ntmps10
      go_wp2
      go_ret
      exact ⟨ret_int (by rw [HV.out]; rfl), rfl⟩
    · obtain ⟨b, o, rfl, hcell⟩ := hc hl
      have hpos : 0 < l.length := List.length_pos_iff.2 hl
      obtain ⟨n, rfl⟩ := Int.eq_ofNat_of_zero_le (show 0 ≤ i by omega)
      have hlt := Nat.mod_lt n hpos
      have HV := Lib.hid (show atN l n = l.getD (n % l.length) 0 by unfold atN; rw [if_neg (by simp [hl])]; rfl)
      have hcc := hcell _ hlt
      have hb : ((l.length : Int) == 0) = false := beq_eq_false_iff_ne.2 (by omega)
      clear hcell hx hl hc
      go_enter Tryd.func10, Tryd.ntmps10
      go_wp2
      go_ret
      exact ⟨ret_int (by rw [HV.out, List.getD_eq_getElem?_getD, List.getElem?_eq_getElem hlt]; rfl), rfl⟩
end Go.Proofs.YtomeobkobohhjaaDoor.coin
