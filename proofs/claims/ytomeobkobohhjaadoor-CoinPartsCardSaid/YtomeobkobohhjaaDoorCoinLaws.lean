/- The walks of the laws of layer 1. -/
import Derived.Test.YtomeobkobohhjaaDoorCoinWalk
set_option linter.unusedVariables false
set_option linter.unusedSimpArgs false
namespace Go.Proofs.YtomeobkobohhjaaDoor.coin
open Go Go.RowKit
set_option maxHeartbeats 1000000


theorem a_halves (w : World) : Calls Tryd.prog 19 #[.int .u64 1311768467463790320] w fun e w' => e = .returned (.tuple #[.int .u32 305419896, .int .u32 2596069104]) ∧ w = w' := halves_any 1311768467463790320 w (by decide) (by decide)
theorem a_height8 (w : World) (hT : Tab w) : Calls Tryd.prog 11 #[.int .u32 8] w fun e w' => e = .returned (.int .i64 4) ∧ w = w' := height_any 8 w (by decide) hT
theorem a_height0 (w : World) (hT : Tab w) : Calls Tryd.prog 11 #[.int .u32 0] w fun e w' => e = .returned (.int .i64 8) ∧ w = w' := height_any 0 w (by decide) hT
theorem a_signed1 (w : World) : Calls Tryd.prog 15 #[.int .u32 255, .int .u8 8] w fun e w' => e = .returned (.int .i32 (-1)) ∧ w = w' := signed_any 255 8 w (by decide) (by decide) (by decide) (by decide)
theorem a_signed2 (w : World) : Calls Tryd.prog 15 #[.int .u32 2147483648, .int .u8 32] w fun e w' => e = .returned (.int .i32 (-2147483648)) ∧ w = w' := signed_any 2147483648 32 w (by decide) (by decide) (by decide) (by decide)
theorem a_at1 (w : World) (b o : Nat) (h0 : w.cell? ⟨b, o, none⟩ = some (.int .u32 3)) (h1 : w.cell? ⟨b, o + 1, none⟩ = some (.int .u32 4)) :
    Calls Tryd.prog 9 #[.slice (some ⟨b, o, none⟩) 2 2, .int .i64 3] w fun e w' => e = .returned (.int .u32 4) ∧ w = w' :=
  at_any _ [3, 4] 3 w ⟨some ⟨b, o, none⟩, 2, rfl, by decide, by decide, fun _ => ⟨b, o, rfl, fun i hi => by
    match i, hi with
    | 0, _ => exact h0
    | 1, _ => exact h1⟩⟩ (by decide) (by decide)
theorem a_at2 (w : World) :
    Calls Tryd.prog 9 #[.slice none 0 0, .int .i64 1] w fun e w' => e = .returned (.int .u32 0) ∧ w = w' :=
  at_any _ [] 1 w ⟨none, 0, rfl, by decide, by simp, fun h => absurd rfl h⟩ (by decide) (by decide)
theorem a_bits (w : World) : Calls Tryd.prog 13 #[.int .u32 240, .int .u8 4, .int .u8 8] w fun e w' => e = .returned (.int .u32 15) ∧ w = w' := bits_any 240 4 8 w (by decide) (by decide) (by decide) (by decide) (by decide) (by decide)
theorem a_mix (w : World) : Calls Tryd.prog 21 #[.int .u32 1, .int .u32 0] w fun e w' => e = .returned (.int .u32 3337565728) ∧ w = w' := mix_any 1 0 w (by decide) (by decide)
theorem a_whole (w : World) : Calls Tryd.prog 23 #[.int .u32 305419896, .int .u32 2596069104] w fun e w' => e = .returned (.int .u64 1311768467463790320) ∧ w = w' := whole_any 305419896 2596069104 w (by decide) (by decide) (by decide) (by decide)
theorem a_pick (w : World) : Calls Tryd.prog 17 #[.int .u32 17, .int .i64 5] w fun e w' => e = .returned (.int .i64 2) ∧ w = w' := pick_any 17 5 w (by decide) (by decide) (by decide)

theorem Script.ext {w w' : World} {v : Value} {l : List Nat} (h : Script w v l) (hg : Ext w w') : Script w' v l := by
  obtain ⟨a, c, rfl, hm, hx, hc⟩ := h
  refine ⟨a, c, rfl, hm, hx, fun hl => ?_⟩
  obtain ⟨b, o, rfl, hh⟩ := hc hl
  exact ⟨b, o, rfl, fun i hi => hg.cell (hh i hi)⟩
theorem Tab.ext {w w' : World} (h : Tab w) (hg : Ext w w') : Tab w' := fun j hj => hg.cell (h j hj)
theorem alive_any (w : World) (hT : Tab w) :
    Calls Tryd.prog 8 #[] w fun e w' => e = .returned (.bool true) ∧ Ext w w' := by
  have HT := Lib.hid hT; clear hT
  go_enter Tryd.func8, Tryd.ntmps8
  go_wp2_with ((with_reducible first
    | (refine (a_halves _).mono ?_; rintro e w' ⟨rfl, rfl⟩)
    | (refine (a_height8 _ HT.out).mono ?_; rintro e w' ⟨rfl, rfl⟩)
    | (refine (a_height0 _ HT.out).mono ?_; rintro e w' ⟨rfl, rfl⟩)
    | (refine (a_signed1 _).mono ?_; rintro e w' ⟨rfl, rfl⟩)
    | (refine (a_signed2 _).mono ?_; rintro e w' ⟨rfl, rfl⟩)
    | (refine (a_at1 _ _ _ (by simp [go_sem]) (by simp [go_sem])).mono ?_; rintro e w' ⟨rfl, rfl⟩)
    | (refine (a_at2 _).mono ?_; rintro e w' ⟨rfl, rfl⟩)
    | (refine (a_bits _).mono ?_; rintro e w' ⟨rfl, rfl⟩)
    | (refine (a_mix _).mono ?_; rintro e w' ⟨rfl, rfl⟩)
    | (refine (a_whole _).mono ?_; rintro e w' ⟨rfl, rfl⟩)
    | (refine (a_pick _).mono ?_; rintro e w' ⟨rfl, rfl⟩)))
  go_ret
  exact ⟨rfl, (Ext.refl _).alloc _⟩
theorem mixes_any (a b : Nat) (x : Int) (w : World) (h1 : a < 4294967296) (h2 : b < 4294967296) (h3 : 0 ≤ x) (h4 : x < 18446744073709551616) (hT : Tab w) :
    Calls Tryd.prog 4 #[.int .u32 a, .int .u32 b, .int .u64 x] w fun e w' => e = .returned (.bool true) ∧ Ext w w' := by
  go_enter Tryd.func4, Tryd.ntmps4
  go_wp2_with fail
  refine (alive_any _ hT).mono ?_
  rintro e w1 ⟨rfl, hg⟩
  have HG := Lib.hid hg; clear hg
  go_wp2_with (first
    | (go_at_call 19; refine (halves_any _ _ h3 h4).mono ?_; rintro e w' ⟨rfl, rfl⟩)
    | (go_at_call 20; refine (rhalves_any _ _ h3 h4).mono ?_; rintro e w' ⟨rfl, rfl⟩)
    | (go_at_call 21; refine (mix_any _ _ _ h1 h2).mono ?_; rintro e w' ⟨rfl, rfl⟩)
    | (go_at_call 22; refine (rmix_any _ _ _ h1 h2).mono ?_; rintro e w' ⟨rfl, rfl⟩)
    | (go_at_call 23; refine (whole_any _ _ _ (by omega) (by omega) (by omega) (by omega)).mono ?_; rintro e w' ⟨rfl, rfl⟩)
    | (go_at_call 24; refine (rwhole_any _ _ _ (by omega) (by omega) (by omega) (by omega)).mono ?_; rintro e w' ⟨rfl, rfl⟩))
  go_ret
  exact ⟨rfl, HG.out⟩
theorem back_any (x a b : Int) (w : World) (h3 : 0 ≤ x) (h4 : x < 18446744073709551616) (h1 : 0 ≤ a) (h2 : a < 4294967296) (h5 : 0 ≤ b) (h6 : b < 4294967296) (hT : Tab w) :
    Calls Tryd.prog 5 #[.int .u64 x, .int .u32 a, .int .u32 b] w fun e w' => e = .returned (.bool true) ∧ Ext w w' := by
  have e1 : x / 4294967296 * 4294967296 + x % 4294967296 = x := by omega
  have e2 : (a * 4294967296 + b) / 4294967296 = a := by omega
  have e3 : (a * 4294967296 + b) % 4294967296 = b := by omega
  go_enter Tryd.func5, Tryd.ntmps5
  go_wp2_with fail
  refine (alive_any _ hT).mono ?_
  rintro e w1 ⟨rfl, hg⟩
  have HG := Lib.hid hg; clear hg
  go_wp2_with (first
    | (go_at_call 19; refine (halves_any _ _ (by omega) (by omega)).mono ?_; rintro e w' ⟨rfl, rfl⟩)
    | (go_at_call 23; refine (whole_any _ _ _ (by omega) (by omega) (by omega) (by omega)).mono ?_; rintro e w' ⟨rfl, rfl⟩))
  go_ret
  exact ⟨rfl, HG.out⟩
theorem mixed_any (a b c : Nat) (w : World) (h1 : a < 4294967296) (h2 : b < 4294967296) (h3 : c < 4294967296) (hT : Tab w) :
    Calls Tryd.prog 7 #[.int .u32 a, .int .u32 b, .int .u32 c] w fun e w' => e = .returned (.bool true) ∧ Ext w w' := by
  have hl := mix_inj_left a b c h1 h2 h3
  have hr := mix_inj_right a b c h1 h2 h3
  by_cases hab : a = b
  · subst hab
    clear hl hr
    go_enter Tryd.func7, Tryd.ntmps7
    go_wp2_with fail
    refine (alive_any _ hT).mono ?_
    rintro e w1 ⟨rfl, hg⟩
    have HG := Lib.hid hg; clear hg
    go_wp2_with ((go_at_call 21; refine (mix_any _ _ _ (by assumption) (by assumption)).mono ?_; rintro e w' ⟨rfl, rfl⟩))
    go_ret
    exact ⟨rfl, HG.out⟩
  · have e0 : ((a : Int) == (b : Int)) = false := beq_eq_false_iff_ne.2 (by omega)
    have e1 : (((mixN a c : Nat) : Int) == ((mixN b c : Nat) : Int)) = false := beq_eq_false_iff_ne.2 (by omega)
    have e2 : (((mixN c a : Nat) : Int) == ((mixN c b : Nat) : Int)) = false := beq_eq_false_iff_ne.2 (by omega)
    clear hl hr hab
    go_enter Tryd.func7, Tryd.ntmps7
    go_wp2_with fail
    refine (alive_any _ hT).mono ?_
    rintro e w1 ⟨rfl, hg⟩
    have HG := Lib.hid hg; clear hg
    go_wp2_with ((go_at_call 21; refine (mix_any _ _ _ (by assumption) (by assumption)).mono ?_; rintro e w' ⟨rfl, rfl⟩))
    go_ret
    exact ⟨rfl, HG.out⟩
theorem answers_any (v : Value) (l : List Nat) (i p q : Int) (w : World) (hs : Script w v l) (h1 : -9223372036854775808 ≤ i) (h2 : i ≤ 9223372036854775807) (h3 : 0 ≤ p) (h4 : p ≤ 255) (h5 : 0 ≤ q) (h6 : q ≤ 255) (hT : Tab w) :
    Calls Tryd.prog 3 #[v, .int .i64 i, .agg #[.int .u8 p, .int .u8 q]] w fun e w' => e = .returned (.bool true) ∧ Ext w w' := by
  have HS := Lib.hid hs
  have hlt : atN l i < 4294967296 := by
    obtain ⟨a, c, _, _, hx, _⟩ := hs
    exact atN_lt l i hx
  clear hs
  go_enter Tryd.func3, Tryd.ntmps3
  go_wp2_with fail
  have hx : Ext w (w.alloc (.cells #[.int .u8 p, .int .u8 q] 23)) := (Ext.refl _).alloc _
  refine (alive_any _ (hT.ext hx)).mono ?_
  rintro e w1 ⟨rfl, hg⟩
  have c0 : w1.cell? ⟨w.heap.size, 0, none⟩ = some (.int .u8 p) := hg.cell (by simp [go_sem])
  have c1 : w1.cell? ⟨w.heap.size, 1, none⟩ = some (.int .u8 q) := hg.cell (by simp [go_sem])
  have HX := Lib.hid (hx.trans hg)
  have HT := Lib.hid (hT.ext (hx.trans hg))
  have HS1 : Hid (Script w1 v l) := Lib.hid (HS.out.ext (hx.trans hg))
  clear hx hg hT HS
  go_wp2_with (go_at_call 9; refine (at_any _ _ _ _ HS1.out h1 h2).mono ?_; rintro e w' ⟨rfl, rfl⟩)
  generalize hz : atN l i = z at *
  have HZ := Lib.hid hz; clear hz
  have z0 : 0 ≤ (z : Int) := by omega
  have z1 : (z : Int) < 4294967296 := by omega
  have HT2 : ∀ n, Tab (w1.drewN n) := fun n => HT.out.ext ((Ext.refl _).drewN n)
  go_quiet ((first
    | (go_at_call 10; refine quiet_eq (HZ.out ▸ rat_any v l i _ (HS1.out.ext ((Ext.refl _).drewN _)) h1 h2))
    | (go_at_call 11; refine quiet_eq (height_any z _ hlt (HT2 _)))
    | (go_at_call 12; refine quiet_eq (rheight_any z _ hlt))
    | (go_at_call 13; refine quiet_eq (bits_any z p q _ z0 z1 h3 h4 h5 h6))
    | (go_at_call 14; refine quiet_eq (rbits_any z p q _ z0 z1 h3 h4 h5 h6))
    | (go_at_call 15; refine quiet_eq (signed_any z p _ z0 z1 h3 h4))
    | (go_at_call 16; refine quiet_eq (rsigned_any z p _ z0 z1 h3 h4))
    | (go_at_call 17; refine quiet_eq (pick_any z i _ z0 z1 h2))
    | (go_at_call 18; refine quiet_eq (rpick_any z i _ z0 z1 h2))))
  go_wp2
  go_ret
  exact ⟨rfl, HX.out.drewN _⟩


theorem parts_core (x p q lo hi s : Int) (n m : Nat) (w w1 : World) (h0 : 0 ≤ x) (h1 : x < 4294967296) (h3 : 0 ≤ p) (h4 : p ≤ 255) (h5 : 0 ≤ q) (h6 : q ≤ 255)
    (hn : p % 33 = n) (hm : q % 33 = m) (hn32 : n ≤ 32) (hm32 : m ≤ 32)
    (hsum : lo + hi * 2 ^ n = x) (hp0 : 0 ≤ hi * 2 ^ n) (hp1 : hi * 2 ^ n ≤ x) (lo0 : 0 ≤ lo) (lo1 : lo < 4294967296) (hi0 : 0 ≤ hi) (hi1 : hi < 4294967296)
    (s0 : -2147483648 ≤ s) (s1 : s ≤ 2147483647)
    (B0 : Hid (∀ w, Calls Tryd.prog 13 #[.int .u32 x, .int .u8 0, .int .u8 n] w fun e w' => e = .returned (.int .u32 lo) ∧ w = w'))
    (B1 : Hid (∀ w, Calls Tryd.prog 13 #[.int .u32 x, .int .u8 n, .int .u8 32] w fun e w' => e = .returned (.int .u32 hi) ∧ w = w'))
    (B2 : Hid (0 < n → n < 32 → ∀ w, Calls Tryd.prog 13 #[.int .u32 x, .int .u8 ((n : Int) - 1), .int .u8 1] w fun e w' => e = .returned (.int .u32 (lo / 2 ^ (n - 1))) ∧ w = w'))
    (S0 : Hid (∀ w, Calls Tryd.prog 15 #[.int .u32 x, .int .u8 n] w fun e w' => e = .returned (.int .i32 s) ∧ w = w'))
    (S1 : Hid (0 < n → n ≤ m → ∀ w, Calls Tryd.prog 15 #[.int .u32 (s % 4294967296), .int .u8 m] w fun e w' => e = .returned (.int .i32 s) ∧ w = w'))
    (HU : 0 < n → s % 4294967296 * 2 ^ (32 - n) % 4294967296 = lo * 2 ^ (32 - n) % 4294967296)
    (HA : Hid (Calls Tryd.prog 8 #[] (w.alloc (.cells #[.int .u8 p, .int .u8 q] 23)) fun e w' => e = .returned (.bool true) ∧ Ext (w.alloc (.cells #[.int .u8 p, .int .u8 q] 23)) w'))  :
    Calls Tryd.prog 6 #[.int .u32 x, .agg #[.int .u8 p, .int .u8 q]] w fun e w' => e = .returned (.bool true) ∧ Ext w w' := by
  have ARM : True := trivial
  have et2 : (32 - (n : Int)).toNat = 32 - n := by omega
  have et : ((n : Int) - 1).toNat = n - 1 := by omega
  have em : min n 64 = n := by omega
  have em2 : min (32 - n) 32 = 32 - n := by omega
  have em3 : min (n - 1) 32 = n - 1 := by omega
  by_cases hz : n = 0
  · have hnz : ((n : Int) == 0) = true := by simp [hz]
    have hng : ¬ 0 < (n : Int) := by omega
    have hnm : decide ((m : Int) < n) = false := by simp; omega
    have HZ := Lib.hid hz
    clear hz HU
    go_enter Tryd.func6, Tryd.ntmps6
    go_wp2_with fail
    refine HA.out.mono ?_
    rintro e w1 ⟨rfl, hg⟩
    have c0 : w1.cell? ⟨w.heap.size, 0, none⟩ = some (.int .u8 p) := hg.cell (by simp [go_sem])
    have c1 : w1.cell? ⟨w.heap.size, 1, none⟩ = some (.int .u8 q) := hg.cell (by simp [go_sem])
    have HG := Lib.hid (((Ext.refl w).alloc _).trans hg)
    clear hg HA
    go_wp2_with ((with_reducible first
      | (refine (B0.out _).mono ?_; rintro e w' ⟨rfl, rfl⟩)
      | (refine (B1.out _).mono ?_; rintro e w' ⟨rfl, rfl⟩)
      | (refine (B2.out (by omega) (by omega) _).mono ?_; rintro e w' ⟨rfl, rfl⟩)
      | (refine (S0.out _).mono ?_; rintro e w' ⟨rfl, rfl⟩)
      | (refine (S1.out (by omega) (by omega) _).mono ?_; rintro e w' ⟨rfl, rfl⟩)))
    go_ret
    exact ⟨rfl, HG.out⟩
  · have hu := HU (by omega)
    have hnz : ((n : Int) == 0) = false := beq_eq_false_iff_ne.2 (by omega)
    have hng : 0 < (n : Int) := by omega
    have hng' : 0 < n := by omega
    clear HU hz
    by_cases hn3 : n < 32
    · have hn3' : (n : Int) < 32 := by omega
      by_cases hnm : (m : Int) < n
      · go_enter Tryd.func6, Tryd.ntmps6
        go_wp2_with fail
        refine HA.out.mono ?_
        rintro e w1 ⟨rfl, hg⟩
        have c0 : w1.cell? ⟨w.heap.size, 0, none⟩ = some (.int .u8 p) := hg.cell (by simp [go_sem])
        have c1 : w1.cell? ⟨w.heap.size, 1, none⟩ = some (.int .u8 q) := hg.cell (by simp [go_sem])
        have HG := Lib.hid (((Ext.refl w).alloc _).trans hg)
        clear hg HA
        go_wp2_with ((with_reducible first
          | (refine (B0.out _).mono ?_; rintro e w' ⟨rfl, rfl⟩)
          | (refine (B1.out _).mono ?_; rintro e w' ⟨rfl, rfl⟩)
          | (refine (B2.out (by omega) (by omega) _).mono ?_; rintro e w' ⟨rfl, rfl⟩)
          | (refine (S0.out _).mono ?_; rintro e w' ⟨rfl, rfl⟩)
          | (refine (S1.out (by omega) (by omega) _).mono ?_; rintro e w' ⟨rfl, rfl⟩)))
        go_ret
        exact ⟨rfl, HG.out⟩
      · have hnm' : n ≤ m := by omega
        have hnm2 : decide ((m : Int) < n) = false := by simpa using hnm
        go_enter Tryd.func6, Tryd.ntmps6
        go_wp2_with fail
        refine HA.out.mono ?_
        rintro e w1 ⟨rfl, hg⟩
        have c0 : w1.cell? ⟨w.heap.size, 0, none⟩ = some (.int .u8 p) := hg.cell (by simp [go_sem])
        have c1 : w1.cell? ⟨w.heap.size, 1, none⟩ = some (.int .u8 q) := hg.cell (by simp [go_sem])
        have HG := Lib.hid (((Ext.refl w).alloc _).trans hg)
        clear hg HA
        go_wp2_with ((with_reducible first
          | (refine (B0.out _).mono ?_; rintro e w' ⟨rfl, rfl⟩)
          | (refine (B1.out _).mono ?_; rintro e w' ⟨rfl, rfl⟩)
          | (refine (B2.out (by omega) (by omega) _).mono ?_; rintro e w' ⟨rfl, rfl⟩)
          | (refine (S0.out _).mono ?_; rintro e w' ⟨rfl, rfl⟩)
          | (refine (S1.out (by omega) (by omega) _).mono ?_; rintro e w' ⟨rfl, rfl⟩)))
        go_ret
        exact ⟨rfl, HG.out⟩
    · have hn3' : ¬ (n : Int) < 32 := by omega
      by_cases hnm : (m : Int) < n
      · go_enter Tryd.func6, Tryd.ntmps6
        go_wp2_with fail
        refine HA.out.mono ?_
        rintro e w1 ⟨rfl, hg⟩
        have c0 : w1.cell? ⟨w.heap.size, 0, none⟩ = some (.int .u8 p) := hg.cell (by simp [go_sem])
        have c1 : w1.cell? ⟨w.heap.size, 1, none⟩ = some (.int .u8 q) := hg.cell (by simp [go_sem])
        have HG := Lib.hid (((Ext.refl w).alloc _).trans hg)
        clear hg HA
        go_wp2_with ((with_reducible first
          | (refine (B0.out _).mono ?_; rintro e w' ⟨rfl, rfl⟩)
          | (refine (B1.out _).mono ?_; rintro e w' ⟨rfl, rfl⟩)
          | (refine (B2.out (by omega) (by omega) _).mono ?_; rintro e w' ⟨rfl, rfl⟩)
          | (refine (S0.out _).mono ?_; rintro e w' ⟨rfl, rfl⟩)
          | (refine (S1.out (by omega) (by omega) _).mono ?_; rintro e w' ⟨rfl, rfl⟩)))
        go_ret
        exact ⟨rfl, HG.out⟩
      · have hnm' : n ≤ m := by omega
        have hnm2 : decide ((m : Int) < n) = false := by simpa using hnm
        go_enter Tryd.func6, Tryd.ntmps6
        go_wp2_with fail
        refine HA.out.mono ?_
        rintro e w1 ⟨rfl, hg⟩
        have c0 : w1.cell? ⟨w.heap.size, 0, none⟩ = some (.int .u8 p) := hg.cell (by simp [go_sem])
        have c1 : w1.cell? ⟨w.heap.size, 1, none⟩ = some (.int .u8 q) := hg.cell (by simp [go_sem])
        have HG := Lib.hid (((Ext.refl w).alloc _).trans hg)
        clear hg HA
        go_wp2_with ((with_reducible first
          | (refine (B0.out _).mono ?_; rintro e w' ⟨rfl, rfl⟩)
          | (refine (B1.out _).mono ?_; rintro e w' ⟨rfl, rfl⟩)
          | (refine (B2.out (by omega) (by omega) _).mono ?_; rintro e w' ⟨rfl, rfl⟩)
          | (refine (S0.out _).mono ?_; rintro e w' ⟨rfl, rfl⟩)
          | (refine (S1.out (by omega) (by omega) _).mono ?_; rintro e w' ⟨rfl, rfl⟩)))
        go_ret
        exact ⟨rfl, HG.out⟩

theorem parts_any (x p q : Int) (w : World) (h0 : 0 ≤ x) (h1 : x < 4294967296) (h3 : 0 ≤ p) (h4 : p ≤ 255) (h5 : 0 ≤ q) (h6 : q ≤ 255) (hT : Tab w) :
    Calls Tryd.prog 6 #[.int .u32 x, .agg #[.int .u8 p, .int .u8 q]] w fun e w' => e = .returned (.bool true) ∧ Ext w w' := by
  obtain ⟨n, hn⟩ : ∃ n : Nat, p % 33 = n := ⟨(p % 33).toNat, by omega⟩
  obtain ⟨m, hm⟩ : ∃ m : Nat, q % 33 = m := ⟨(q % 33).toNat, by omega⟩
  have hn32 : n ≤ 32 := by omega
  have hm32 : m ≤ 32 := by omega
  obtain ⟨e1, e2, hsum, hp0, hp1⟩ := parts_sum x n hn32 h0 h1
  have lo0 := bitsI_range x 0 n h0
  have hi0 := bitsI_range x n 32 h0
  have hs := sgn_range x n hn32
  refine parts_core x p q (bitsI x 0 n) (bitsI x n 32) (sgn x n) n m w w h0 h1 h3 h4 h5 h6 hn hm hn32 hm32 hsum hp0 hp1 lo0.1 lo0.2 hi0.1 hi0.2 hs.1 hs.2
    (fun w => bits_any x 0 n w h0 h1 (by omega) (by omega) (by omega) (by omega))
    (fun w => bits_any x n 32 w h0 h1 (by omega) (by omega) (by omega) (by omega)) ?_
    (fun w => ?_) ?_ (fun hn0 => ?_) (alive_any _ (hT.ext ((Ext.refl _).alloc _)))
  · intro a b w
    have := bits_any x ((n : Int) - 1) 1 w h0 h1 (by omega) (by omega) (by omega) (by omega)
    have hb := parts_bit x (n - 1) (by omega) h0 h1
    rw [show n - 1 + 1 = n by omega, ← e1, show ((n - 1 : Nat) : Int) = (n : Int) - 1 by omega] at hb
    rw [hb] at this
    exact this
  · have := signed_any x n w h0 h1 (by omega) (by omega)
    rw [Int.toNat_natCast, Nat.min_eq_left hn32] at this
    exact this
  · intro a b w
    have := signed_any (sgn x n % 4294967296) m w (by omega) (by omega) (by omega) (by omega)
    rw [Int.toNat_natCast, Nat.min_eq_left hm32, sgn_again x n m a b hm32] at this
    exact this
  · rw [e1]
    exact sgn_up x n hn0 hn32
end Go.Proofs.YtomeobkobohhjaaDoor.coin
