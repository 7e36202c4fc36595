/- The contracts of Scale, of the program and of the reference. -/
import Derived.Test.YtnpkbjekodjcjaaDoorDv
set_option linter.all false
namespace Go.Proofs.YtnpkbjekodjcjaaDoor
open Go.RowKit Go.Fen Hil
set_option linter.unusedVariables false
set_option maxHeartbeats 4000000

theorem div_any (hi lo y : Nat) (w : World) (hlo : lo < 18446744073709551616) (hy : hi < y) (hy2 : y < 18446744073709551616) :
    Calls Tryd.prog 31 #[.int .u64 hi, .int .u64 lo, .int .u64 y] w fun e w' => ∃ r, e = .returned (.tuple #[.int .u64 ((hi * 18446744073709551616 + lo) / y : Nat), r]) ∧ ∃ q, w' = w.drewN q := by
  rcases Nat.eq_zero_or_pos hi with h | h
  · subst h
    rw [Nat.zero_mul, Nat.zero_add]
    refine (div_small lo y w hlo (by omega) hy2).mono ?_
    rintro e w' ⟨rfl, h⟩
    exact ⟨_, rfl, h⟩
  · exact div_big hi lo y w h hlo hy hy2

theorem scale_in (v lo hi : Int) (k : Nat) (w : World) (hv : -9223372036854775808 ≤ v ∧ v < 9223372036854775808) (hlo : -9223372036854775808 ≤ lo ∧ lo < 9223372036854775808) (hhi : -9223372036854775808 ≤ hi ∧ hi < 9223372036854775808) (h1 : lo ≤ v) (h2 : v ≤ hi) (h3 : 1 ≤ k) (h4 : k ≤ 16) :
    Calls Tryd.prog 15 #[.int .i64 v, .int .i64 lo, .int .i64 hi, .int .i64 k] w fun e w' => e = .returned (.int .u32 (scl v lo hi k)) ∧ ∃ q, w' = w.drewN q := by
  have R := right_any k w
  rw [decide_eq_true (by omega)] at R
  have RR := Lib.hid R
  have l1 : ¬ hi < lo := by omega
  have l2 : ¬ v < lo := by omega
  have l3 : ¬ hi < v := by omega
  have e1 : decide (hi < lo) = false := decide_eq_false l1
  have e2 : decide (v < lo) = false := decide_eq_false l2
  have e3 : decide (hi < v) = false := decide_eq_false l3
  have S : scl v lo hi k = (v - lo).toNat * 2 ^ k / ((hi - lo).toNat + 1) := by
    unfold scl; rw [if_neg (by omega), if_neg l3]
  have SL := scl_lt v lo hi k
  have SL2 := pow_le16 k h4
  obtain ⟨d, hd⟩ : ∃ d, d = (v - lo).toNat := ⟨_, rfl⟩
  obtain ⟨m, hm⟩ : ∃ m, m = (hi - lo).toNat := ⟨_, rfl⟩
  have c1 : IntKind.u64.wrap (IntKind.u64.wrap v - IntKind.u64.wrap lo) = (d : Int) := by simp only [wrap64]; omega
  have c2 : IntKind.u64.wrap (IntKind.u64.wrap hi - IntKind.u64.wrap lo) = (m : Int) := by simp only [wrap64]; omega
  have dl : d < 18446744073709551616 := by omega
  have ml : m < 18446744073709551616 := by omega
  have dm : d ≤ m := by omega
  rw [← hd, ← hm] at S
  rw [S] at SL ⊢
  obtain ⟨s, hs⟩ : ∃ s, s = 2 ^ k := ⟨_, rfl⟩
  have sl : s ≤ 65536 := by rw [hs]; exact SL2
  have t1 : (2 : Int) ^ k = (s : Int) := by rw [hs]; exact int_two_pow k
  rw [← hs] at SL ⊢
  by_cases hn : m + 1 = 18446744073709551616
  · have c3 : IntKind.u64.wrap ((m : Int) + 1) = 0 := by rw [wrap64]; omega
    have hp : (64 - (k : Int)).toNat = 64 - k := by omega
    have hp2 : (2 : Int) ^ (64 - k) = ((2 ^ (64 - k) : Nat) : Int) := by simp
    have dv : d * s / (m + 1) = d / 2 ^ (64 - k) := by
      rw [hn, hs, show 18446744073709551616 = 2 ^ (64 - k) * 2 ^ k by rw [← Nat.pow_add, show 64 - k + k = 64 by omega]]
      exact Nat.mul_div_mul_right _ _ (two_pos k)
    rw [dv] at SL ⊢
    obtain ⟨g, hg⟩ : ∃ g, g = 2 ^ (64 - k) := ⟨_, rfl⟩
    rw [← hg] at hp2 SL ⊢
    obtain ⟨r, hr⟩ : ∃ r, r = d / g := ⟨_, rfl⟩
    have d1 : (d : Int) / (g : Int) = (r : Int) := by rw [hr]; simp
    rw [← hr] at SL ⊢
    have r2 : (r : Int) % 4294967296 = (r : Int) := by omega
    clear S hs hg hr dv hd hm
    go_enter Tryd.func15, Tryd.ntmps15
    go_wp2_with fail
    refine RR.out.mono ?_
    rintro e w' ⟨rfl, rfl⟩
    go_wp2_with fail
    go_ret
    exact ⟨rfl, 0, rfl⟩
  · have c3 : IntKind.u64.wrap ((m : Int) + 1) = ((m + 1 : Nat) : Int) := by rw [wrap64]; omega
    have dlt : d * s / 18446744073709551616 < m + 1 := by
      have h1 : d * s ≤ m * 65536 := Nat.mul_le_mul dm sl
      generalize d * s = z at *
      omega
    have D := fun w => div_any (d * s / 18446744073709551616) (d * s % 18446744073709551616) (m + 1) w (Nat.mod_lt _ (by decide)) dlt (by omega)
    rw [show d * s / 18446744073709551616 * 18446744073709551616 + d * s % 18446744073709551616 = d * s by generalize d * s = z at *; omega] at D
    have M := fun w => mul64_any d s w dl sl
    generalize d * s / 18446744073709551616 = zh at *
    generalize d * s % 18446744073709551616 = zl at *
    obtain ⟨r, hr⟩ : ∃ r, r = d * s / (m + 1) := ⟨_, rfl⟩
    rw [← hr] at D SL ⊢
    obtain ⟨n, hn'⟩ : ∃ n, n = m + 1 := ⟨_, rfl⟩
    have n0 : ¬ n = 0 := by omega
    rw [← hn'] at D c3
    have HD := Lib.hid D
    have HM := Lib.hid M
    have r2 : (r : Int) % 4294967296 = (r : Int) := by omega
    clear S hs hr hd hm D M hn'
    go_enter Tryd.func15, Tryd.ntmps15
    go_wp2_with fail
    refine RR.out.mono ?_
    rintro e w' ⟨rfl, rfl⟩
    go_wp2_with fail
    refine (HM.out _).mono ?_
    rintro e w1 ⟨rfl, rfl⟩
    go_wp2_with fail
    refine (HD.out _).mono ?_
    rintro e w1 ⟨rr, rfl, q, rfl⟩
    go_wp2_with fail
    go_ret
    exact ⟨rfl, q, rfl⟩


/-- what Scale returns -/
def sclK (v lo hi k : Int) : Nat := if k < 1 ∨ 16 < k then 0 else scl v lo hi k.toNat

theorem scale_any (v lo hi k : Int) (w : World) (hv : -9223372036854775808 ≤ v ∧ v < 9223372036854775808) (hlo : -9223372036854775808 ≤ lo ∧ lo < 9223372036854775808) (hhi : -9223372036854775808 ≤ hi ∧ hi < 9223372036854775808) :
    Calls Tryd.prog 15 #[.int .i64 v, .int .i64 lo, .int .i64 hi, .int .i64 k] w fun e w' => e = .returned (.int .u32 (sclK v lo hi k)) ∧ ∃ q, w' = w.drewN q := by
  by_cases h : k < 1 ∨ 16 < k ∨ hi < lo ∨ v < lo ∨ hi < v
  · have e : sclK v lo hi k = (if k < 1 ∨ 16 < k ∨ hi < lo ∨ v < lo then 0 else 2 ^ k.toNat - 1 : Nat) := by
      unfold sclK scl
      split
      · rw [if_pos (by omega)]
      · split
        · rw [if_pos (by omega)]
        · rw [if_pos (by omega), if_neg (by omega)]
    rw [e]
    refine (scale_out v lo hi k w h).mono ?_
    rintro e w' ⟨rfl, rfl⟩
    exact ⟨rfl, 0, rfl⟩
  · obtain ⟨n, rfl⟩ : ∃ n : Nat, k = n := ⟨k.toNat, by omega⟩
    have e : sclK v lo hi n = scl v lo hi n := by rw [sclK, if_neg (by omega), Int.toNat_natCast]
    rw [e]
    exact scale_in v lo hi n w hv hlo hhi (by omega) (by omega) (by omega) (by omega)

theorem rscale_any (v lo hi k : Int) (w : World) (hv : -9223372036854775808 ≤ v ∧ v < 9223372036854775808) (hlo : -9223372036854775808 ≤ lo ∧ lo < 9223372036854775808) (hhi : -9223372036854775808 ≤ hi ∧ hi < 9223372036854775808) :
    Calls Tryd.prog 16 #[.int .i64 v, .int .i64 lo, .int .i64 hi, .int .i64 k] w fun e w' => e = .returned (.int .u32 (sclK v lo hi k)) ∧ ∃ q, w' = w.drewN q := by
  by_cases k1 : k < 1
  · have E : sclK v lo hi k = 0 := by rw [sclK, if_pos (.inl k1)]
    rw [E]
    have d1 : decide (k < 1) = true := decide_eq_true k1
    go_enter Tryd.func16, Tryd.ntmps16
    go_wp2_with fail
    go_ret
    exact ⟨rfl, 0, rfl⟩
  have d1 : decide (k < 1) = false := decide_eq_false k1
  by_cases k2 : 16 < k
  · have E : sclK v lo hi k = 0 := by rw [sclK, if_pos (.inr k2)]
    rw [E]
    have d2 : decide (16 < k) = true := decide_eq_true k2
    go_enter Tryd.func16, Tryd.ntmps16
    go_wp2_with fail
    go_ret
    exact ⟨rfl, 0, rfl⟩
  have d2 : decide (16 < k) = false := decide_eq_false k2
  by_cases h1 : hi < lo
  · have E : sclK v lo hi k = 0 := by rw [sclK, if_neg (by omega), scl, if_pos (.inl h1)]
    rw [E]
    have d3 : decide (hi < lo) = true := decide_eq_true h1
    go_enter Tryd.func16, Tryd.ntmps16
    go_wp2_with fail
    go_ret
    exact ⟨rfl, 0, rfl⟩
  have d3 : decide (hi < lo) = false := decide_eq_false h1
  by_cases h2 : v < lo
  · have E : sclK v lo hi k = 0 := by rw [sclK, if_neg (by omega), scl, if_pos (.inr h2)]
    rw [E]
    have d4 : decide (v < lo) = true := decide_eq_true h2
    go_enter Tryd.func16, Tryd.ntmps16
    go_wp2_with fail
    go_ret
    exact ⟨rfl, 0, rfl⟩
  have d4 : decide (v < lo) = false := decide_eq_false h2
  obtain ⟨n, rfl⟩ : ∃ n : Nat, k = n := ⟨k.toNat, by omega⟩
  have n16 : n ≤ 16 := by omega
  obtain ⟨s, hs⟩ : ∃ s, s = 2 ^ n := ⟨_, rfl⟩
  have s0 : 0 < s := by rw [hs]; exact two_pos n
  have sl : s ≤ 65536 := by rw [hs]; exact pow_le16 n n16
  have t1 : (2 : Int) ^ n = (s : Int) := by rw [hs]; exact int_two_pow n
  by_cases h3 : hi < v
  · have E : sclK v lo hi n = s - 1 := by rw [sclK, if_neg (by omega), scl, if_neg (by omega), if_pos h3, Int.toNat_natCast, hs]
    rw [E]
    have s1 : ((s - 1 : Nat) : Int) = (s : Int) - 1 := by omega
    rw [s1]
    have d5 : decide (hi < v) = true := decide_eq_true h3
    clear hs E s1
    go_enter Tryd.func16, Tryd.ntmps16
    go_wp2_with fail
    go_ret
    exact ⟨rfl, 0, rfl⟩
  have d5 : decide (hi < v) = false := decide_eq_false h3
  obtain ⟨d, hd⟩ : ∃ d, d = (v - lo).toNat := ⟨_, rfl⟩
  obtain ⟨m, hm⟩ : ∃ m, m = (hi - lo).toNat := ⟨_, rfl⟩
  have c1 : IntKind.u64.wrap (IntKind.u64.wrap v - IntKind.u64.wrap lo) = (d : Int) := by simp only [wrap64]; omega
  have c2 : IntKind.u64.wrap (IntKind.u64.wrap hi - IntKind.u64.wrap lo) = (m : Int) := by simp only [wrap64]; omega
  have dl : d < 18446744073709551616 := by omega
  have ml : m < 18446744073709551616 := by omega
  have dm : d ≤ m := by omega
  have E : sclK v lo hi n = d * 2 ^ n / (m + 1) := by rw [sclK, if_neg (by omega), scl, if_neg (by omega), if_neg h3, Int.toNat_natCast, ← hd, ← hm]
  have bnd : ∀ j, d * 2 ^ j / (m + 1) < 2 ^ j := fun j => by
    rw [Nat.div_lt_iff_lt_mul (by omega), Nat.mul_comm]
    exact Nat.mul_lt_mul_of_pos_left (by omega) (two_pos j)
  have HE := Lib.hid E
  have HBN := Lib.hid bnd
  obtain ⟨res, hres⟩ : ∃ r, r = sclK v lo hi n := ⟨_, rfl⟩
  rw [← hres]
  have HRES := Lib.hid hres
  have DM := Lib.hid dm
  clear E bnd hs hd hm hres dm t1 s0 sl
  go_enter Tryd.func16, Tryd.ntmps16
  go_wp2_with fail
  go_loopw [10, 11, 12] (fun rv ov kv wr => ∃ j : Nat, j ≤ n ∧ rv = .int .u64 (d * 2 ^ j % (m + 1) : Nat) ∧ ov = .int .u32 (d * 2 ^ j / (m + 1) : Nat) ∧ kv = .int .i64 j ∧ w = wr) (fun _ _ kv _ => n - (intOf kv).toNat)
  case atStart => exact ⟨0, by omega, by rw [Nat.pow_zero, Nat.mul_one, Nat.mod_eq_of_lt (by have := DM.out; omega)], by rw [Nat.pow_zero, Nat.mul_one, Nat.div_eq_of_lt (by have := DM.out; omega)]; rfl, rfl, by first | trivial | rfl⟩
  case round =>
    obtain ⟨j, hj, rfl, rfl, rfl, rfl⟩ := hrel
    by_cases hjn : j < n
    · have ji : (j : Int) < (n : Int) := by omega
      have SS := scale_step d (m + 1) j (by omega)
      have b1 := HBN.out (j + 1)
      have b0 := HBN.out j
      have p1 := pow_le16 (j + 1) (by omega)
      have p0 := pow_le16 j (by omega)
      have rm := Nat.mod_lt (d * 2 ^ j) (show 0 < m + 1 by omega)
      obtain ⟨r, hr⟩ : ∃ r, r = d * 2 ^ j % (m + 1) := ⟨_, rfl⟩
      obtain ⟨o, ho⟩ : ∃ r, r = d * 2 ^ j / (m + 1) := ⟨_, rfl⟩
      rw [← hr, ← ho] at SS
      rw [← ho] at b0
      rw [← hr] at rm
      rw [← hr, ← ho]
      have ol : o ≤ 65536 := by omega
      have rl : r ≤ m := by omega
      obtain ⟨x, hx⟩ : ∃ x, x = m - r := ⟨_, rfl⟩
      have x1 : (m : Int) - (r : Int) = (x : Int) := by omega
      have rl2 : r < 18446744073709551616 := by omega
      have HJ := Lib.hid hjn
      by_cases hc : m + 1 ≤ 2 * r
      · obtain ⟨e1, e2⟩ := SS.1 hc
        have d6 : decide ((x : Int) < (r : Int)) = true := decide_eq_true (by omega)
        have d6' : decide (x < r) = true := decide_eq_true (by omega)
        obtain ⟨y, hy⟩ : ∃ y, y = r - x := ⟨_, rfl⟩
        have y1 : (r : Int) - (x : Int) = (y : Int) := by omega
        obtain ⟨z, hz⟩ : ∃ z, z = y - 1 := ⟨_, rfl⟩
        have z1 : (y : Int) - 1 = (z : Int) := by omega
        have yl : 1 ≤ y := by omega
        have xr : x ≤ r := by omega
        have E1 := Lib.hid e1
        have E2 := Lib.hid (show d * 2 ^ (j + 1) % (m + 1) = z by omega)
        clear SS b1 b0 p1 p0 rm hr ho hx hy hz hc e1 e2 hj hjn
        go_wp2_with fail
        go_roundw
        case rel => exact ⟨j + 1, HJ.out, by rw [E2.out], by rw [E1.out]; go_num, by go_num, by first | trivial | rfl⟩
        case measure => have := HJ.out; simp [intOf] <;> omega
      · obtain ⟨e1, e2⟩ := SS.2 hc
        have d6 : decide ((x : Int) < (r : Int)) = false := decide_eq_false (by omega)
        have d6' : decide (x < r) = false := decide_eq_false (by omega)
        have r2 : 2 * r < 18446744073709551616 := by omega
        have E1 := Lib.hid e1
        have E2 := Lib.hid e2
        clear SS b1 b0 p1 p0 rm hr ho hx hc e1 e2 hj hjn
        go_wp2_with fail
        go_roundw
        case rel => exact ⟨j + 1, HJ.out, by rw [E2.out]; go_num, by rw [E1.out]; go_num, by go_num, by first | trivial | rfl⟩
        case measure => have := HJ.out; simp [intOf] <;> omega
    · obtain rfl : j = n := by omega
      have ji : ¬ (j : Int) < (j : Int) := by omega
      have HO := Lib.hid (show d * 2 ^ j / (m + 1) = res by rw [HRES.out, HE.out])
      rw [HO.out]
      go_wp2_with fail
      go_ret
      exact ⟨rfl, 0, rfl⟩
end Go.Proofs.YtnpkbjekodjcjaaDoor
