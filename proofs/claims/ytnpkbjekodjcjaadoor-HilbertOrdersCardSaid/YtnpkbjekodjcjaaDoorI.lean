/- The contracts of the scale: the product of 64 bits by a power of two, and Scale where the quotient is given. -/
import Derived.Test.YtnpkbjekodjcjaaDoorH
set_option linter.all false
namespace Go.Proofs.YtnpkbjekodjcjaaDoor
open Go.RowKit Go.Fen Hil
set_option linter.unusedVariables false
set_option maxHeartbeats 4000000

theorem and32 (d : Nat) (hd : d < 18446744073709551616) : bits BinOp.and IntKind.u64 (d : Int) 4294967295 = ((d % 4294967296 : Nat) : Int) := by
  rw [u64_and _ _ (by omega) (by omega) (by omega) (by omega)]
  rw [show ((4294967295 : Int).toNat) = 2 ^ 32 - 1 from rfl, Int.toNat_natCast, Nat.and_two_pow_sub_one_eq_mod]

theorem wrap64 (z : Int) : IntKind.u64.wrap z = z % 18446744073709551616 := rfl

theorem mul64_any (x y : Nat) (w : World) (hx : x < 18446744073709551616) (hy : y ≤ 65536) :
    Calls Tryd.prog 30 #[.int .u64 x, .int .u64 y] w fun e w' => e = .returned (.tuple #[.int .u64 (x * y / 18446744073709551616 : Nat), .int .u64 (x * y % 18446744073709551616 : Nat)]) ∧ w' = w := by
  obtain ⟨x0, h0⟩ : ∃ x0, x0 = x % 4294967296 := ⟨_, rfl⟩
  obtain ⟨x1, h1⟩ : ∃ x1, x1 = x / 4294967296 := ⟨_, rfl⟩
  have a1 := and32 x hx
  rw [← h0] at a1
  have a2 := and32 y (by omega)
  rw [Nat.mod_eq_of_lt (by omega)] at a2
  have a3 : (x : Int) / 4294967296 = (x1 : Int) := by omega
  have a4 : (y : Int) / 4294967296 = 0 := by omega
  have x0l : x0 < 4294967296 := by omega
  have x1l : x1 < 4294967296 := by omega
  obtain ⟨p0, hp0⟩ : ∃ p0, p0 = x0 * y := ⟨_, rfl⟩
  obtain ⟨p1, hp1⟩ : ∃ p1, p1 = x1 * y := ⟨_, rfl⟩
  have b0 : p0 ≤ 4294967296 * 65536 := by rw [hp0]; exact Nat.mul_le_mul (by omega) hy
  have b1 : p1 ≤ 4294967296 * 65536 := by rw [hp1]; exact Nat.mul_le_mul (by omega) hy
  have m0 : (x0 : Int) * (y : Int) = (p0 : Int) := by rw [hp0]; simp
  have m1 : (x1 : Int) * (y : Int) = (p1 : Int) := by rw [hp1]; simp
  obtain ⟨q0, hq0⟩ : ∃ q0, q0 = p0 / 4294967296 := ⟨_, rfl⟩
  have d0 : (p0 : Int) / 4294967296 = (q0 : Int) := by omega
  obtain ⟨t, ht⟩ : ∃ t, t = p1 + q0 := ⟨_, rfl⟩
  have s0 : (p1 : Int) + (q0 : Int) = (t : Int) := by omega
  have tl : t < 18446744073709551616 := by omega
  have a5 := and32 t tl
  obtain ⟨t0, ht0⟩ : ∃ t0, t0 = t % 4294967296 := ⟨_, rfl⟩
  rw [← ht0] at a5
  obtain ⟨t1, ht1⟩ : ∃ t1, t1 = t / 4294967296 := ⟨_, rfl⟩
  have d1 : (t : Int) / 4294967296 = (t1 : Int) := by omega
  have d2 : (t0 : Int) / 4294967296 = 0 := by omega
  have t1l : t1 < 4294967296 := by omega
  have t0l : t0 < 4294967296 := by omega
  have hz : x * y = p1 * 4294967296 + p0 := by
    rw [hp0, hp1, show x = x1 * 4294967296 + x0 by omega, Nat.add_mul, Nat.mul_right_comm]
  have hh : x * y / 18446744073709551616 = t1 := by omega
  obtain ⟨z, hzz⟩ : ∃ z, z = x * y := ⟨_, rfl⟩
  have m2 : (x : Int) * (y : Int) = (z : Int) := by rw [hzz]; simp
  have w2 : IntKind.u64.wrap (z : Int) = ((z % 18446744073709551616 : Nat) : Int) := by rw [wrap64]; simp
  rw [hh, ← hzz]
  have HQ := Lib.hid hq0
  clear hz hh hzz ht ht0 ht1 hq0 hp0 hp1 h0 h1
  generalize z % 18446744073709551616 = zl at *
  go_enter Tryd.func30, Tryd.ntmps30
  go_wp2_with fail
  go_ret2
  exact ⟨rfl, rfl⟩

theorem scale_via (v lo hi : Int) (k : Nat) (w : World) (hv : -9223372036854775808 ≤ v ∧ v < 9223372036854775808) (hlo : -9223372036854775808 ≤ lo ∧ lo < 9223372036854775808) (hhi : -9223372036854775808 ≤ hi ∧ hi < 9223372036854775808) (h1 : lo ≤ v) (h2 : v ≤ hi) (h3 : 1 ≤ k) (h4 : k ≤ 16)
    (hD : ∀ D n w, D = (v - lo).toNat * 2 ^ k → n = (hi - lo).toNat + 1 → Calls Tryd.prog 31 #[.int .u64 (D / 18446744073709551616 : Nat), .int .u64 (D % 18446744073709551616 : Nat), .int .u64 n] w fun e w' => ∃ r, e = .returned (.tuple #[.int .u64 (D / n : Nat), r]) ∧ ∃ q, w' = w.drewN q) :
    Calls Tryd.prog 15 #[.int .i64 v, .int .i64 lo, .int .i64 hi, .int .i64 k] w fun e w' => e = .returned (.int .u32 (scl v lo hi k)) ∧ ∃ q, w' = w.drewN q := by
  have R := right_any k w
  rw [decide_eq_true (by omega)] at R
  have RR := Lib.hid R
  have l1 : ¬ hi < lo := by omega
  have l2 : ¬ v < lo := by omega
  have l3 : ¬ hi < v := by omega
  have e1 : decide (hi < lo) = false := decide_eq_false l1
  have e2 : decide (v < lo) = false := decide_eq_false l2
  have e3 : decide (hi < v) = false := decide_eq_false l3
  have S : scl v lo hi k = (v - lo).toNat * 2 ^ k / ((hi - lo).toNat + 1) := by
    unfold scl; rw [if_neg (by omega), if_neg l3]
  have SL := scl_lt v lo hi k
  have SL2 := pow_le16 k h4
  obtain ⟨d, hd⟩ : ∃ d, d = (v - lo).toNat := ⟨_, rfl⟩
  obtain ⟨m, hm⟩ : ∃ m, m = (hi - lo).toNat := ⟨_, rfl⟩
  have c1 : IntKind.u64.wrap (IntKind.u64.wrap v - IntKind.u64.wrap lo) = (d : Int) := by simp only [wrap64]; omega
  have c2 : IntKind.u64.wrap (IntKind.u64.wrap hi - IntKind.u64.wrap lo) = (m : Int) := by simp only [wrap64]; omega
  have dl : d < 18446744073709551616 := by omega
  have ml : m < 18446744073709551616 := by omega
  have dm : d ≤ m := by omega
  rw [← hd, ← hm] at S hD
  rw [S] at SL ⊢
  obtain ⟨s, hs⟩ : ∃ s, s = 2 ^ k := ⟨_, rfl⟩
  have sl : s ≤ 65536 := by rw [hs]; exact SL2
  have t1 : (2 : Int) ^ k = (s : Int) := by rw [hs]; exact int_two_pow k
  rw [← hs] at SL hD ⊢
  by_cases hn : m + 1 = 18446744073709551616
  · have c3 : IntKind.u64.wrap ((m : Int) + 1) = 0 := by rw [wrap64]; omega
    have hp : (64 - (k : Int)).toNat = 64 - k := by omega
    have hp2 : (2 : Int) ^ (64 - k) = ((2 ^ (64 - k) : Nat) : Int) := by simp
    have dv : d * s / (m + 1) = d / 2 ^ (64 - k) := by
      rw [hn, hs, show 18446744073709551616 = 2 ^ (64 - k) * 2 ^ k by rw [← Nat.pow_add, show 64 - k + k = 64 by omega]]
      exact Nat.mul_div_mul_right _ _ (two_pos k)
    rw [dv] at SL ⊢
    obtain ⟨g, hg⟩ : ∃ g, g = 2 ^ (64 - k) := ⟨_, rfl⟩
    rw [← hg] at hp2 SL ⊢
    obtain ⟨r, hr⟩ : ∃ r, r = d / g := ⟨_, rfl⟩
    have d1 : (d : Int) / (g : Int) = (r : Int) := by rw [hr]; simp
    rw [← hr] at SL ⊢
    have r2 : (r : Int) % 4294967296 = (r : Int) := by omega
    clear S hD hs hg hr dv hd hm
    go_enter Tryd.func15, Tryd.ntmps15
    go_wp2_with fail
    refine RR.out.mono ?_
    rintro e w' ⟨rfl, rfl⟩
    go_wp2_with fail
    go_ret
    exact ⟨rfl, 0, rfl⟩
  · have c3 : IntKind.u64.wrap ((m : Int) + 1) = ((m + 1 : Nat) : Int) := by rw [wrap64]; omega
    have D := fun w => hD (d * s) (m + 1) w rfl rfl
    have M := fun w => mul64_any d s w dl sl
    generalize d * s / 18446744073709551616 = zh at *
    generalize d * s % 18446744073709551616 = zl at *
    obtain ⟨r, hr⟩ : ∃ r, r = d * s / (m + 1) := ⟨_, rfl⟩
    rw [← hr] at D SL ⊢
    obtain ⟨n, hn'⟩ : ∃ n, n = m + 1 := ⟨_, rfl⟩
    have n0 : ¬ n = 0 := by omega
    rw [← hn'] at D c3
    have HD := Lib.hid D
    have HM := Lib.hid M
    have r2 : (r : Int) % 4294967296 = (r : Int) := by omega
    clear S hD hs hr hd hm D M hn'
    go_enter Tryd.func15, Tryd.ntmps15
    go_wp2_with fail
    refine RR.out.mono ?_
    rintro e w' ⟨rfl, rfl⟩
    go_wp2_with fail
    refine (HM.out _).mono ?_
    rintro e w1 ⟨rfl, rfl⟩
    go_wp2_with fail
    refine (HD.out _).mono ?_
    rintro e w1 ⟨rr, rfl, q, rfl⟩
    go_wp2_with fail
    go_ret
    exact ⟨rfl, q, rfl⟩

/-- outside the range -/
theorem scale_out (v lo hi k : Int) (w : World) (h : k < 1 ∨ 16 < k ∨ hi < lo ∨ v < lo ∨ hi < v) :
    Calls Tryd.prog 15 #[.int .i64 v, .int .i64 lo, .int .i64 hi, .int .i64 k] w fun e w' => e = .returned (.int .u32 (if k < 1 ∨ 16 < k ∨ hi < lo ∨ v < lo then 0 else 2 ^ k.toNat - 1 : Nat)) ∧ w' = w := by
  have R := right_any k w
  by_cases hk : k < 1 ∨ 16 < k
  · rw [if_pos (by omega)]
    rw [decide_eq_false (by omega)] at R
    have RR := Lib.hid R
    clear h R hk
    go_enter Tryd.func15, Tryd.ntmps15
    go_wp2_with fail
    refine RR.out.mono ?_
    rintro e w' ⟨rfl, rfl⟩
    go_wp2_with fail
    go_ret
    exact ⟨rfl, rfl⟩
  · rw [decide_eq_true (by omega)] at R
    have RR := Lib.hid R
    clear R
    by_cases h1 : hi < lo
    · rw [if_pos (by omega)]
      have e1 : decide (hi < lo) = true := decide_eq_true h1
      clear h hk
      go_enter Tryd.func15, Tryd.ntmps15
      go_wp2_with fail
      refine RR.out.mono ?_
      rintro e w' ⟨rfl, rfl⟩
      go_wp2_with fail
      go_ret
      exact ⟨rfl, rfl⟩
    · by_cases h2 : v < lo
      · rw [if_pos (by omega)]
        have e1 : decide (hi < lo) = false := decide_eq_false h1
        have e2 : decide (v < lo) = true := decide_eq_true h2
        clear h hk
        go_enter Tryd.func15, Tryd.ntmps15
        go_wp2_with fail
        refine RR.out.mono ?_
        rintro e w' ⟨rfl, rfl⟩
        go_wp2_with fail
        go_ret
        exact ⟨rfl, rfl⟩
      · rw [if_neg (by omega)]
        have h3 : hi < v := by omega
        have e1 : decide (hi < lo) = false := decide_eq_false h1
        have e2 : decide (v < lo) = false := decide_eq_false h2
        have e3 : decide (hi < v) = true := decide_eq_true h3
        obtain ⟨n, rfl⟩ : ∃ n : Nat, k = n := ⟨k.toNat, by omega⟩
        rw [Int.toNat_natCast]
        obtain ⟨s, hs⟩ : ∃ s, s = 2 ^ n := ⟨_, rfl⟩
        have s0 : 0 < s := by rw [hs]; exact two_pos n
        have sl : s ≤ 65536 := by rw [hs]; exact pow_le16 n (by omega)
        have t1 : (2 : Int) ^ n = (s : Int) := by rw [hs]; exact int_two_pow n
        rw [← hs]
        have hn16 : n ≤ 16 := by omega
        have s1 : ((s - 1 : Nat) : Int) = (s : Int) - 1 := by omega
        rw [s1]
        clear h hk hs s1
        go_enter Tryd.func15, Tryd.ntmps15
        go_wp2_with fail
        refine RR.out.mono ?_
        rintro e w' ⟨rfl, rfl⟩
        go_wp2_with fail
        go_ret
        exact ⟨rfl, rfl⟩
end Go.Proofs.YtnpkbjekodjcjaaDoor
