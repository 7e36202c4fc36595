/- The quotient of small numbers, the scale of small numbers. -/
import Derived.Test.YtnpkbjekodjcjaaDoorW
set_option linter.all false
namespace Go.Proofs.YtnpkbjekodjcjaaDoor
open Go.RowKit Go.Fen Hil
set_option linter.unusedVariables false
set_option maxHeartbeats 4000000

theorem div_small (x y : Nat) (w : World) (hx : x < 18446744073709551616) (h0 : 0 < y) (hy : y < 18446744073709551616) :
    Calls Tryd.prog 31 #[.int .u64 (0 : Nat), .int .u64 x, .int .u64 y] w fun e w' => e = .returned (.tuple #[.int .u64 (x / y : Nat), .int .u64 (x % y : Nat)]) ∧ ∃ q, w' = w.drewN q := by
  have y1 : ((y : Int) == 0) = false := beq_eq_false_iff_ne.2 (by omega)
  have y2 : decide ((y : Int) ≤ 0) = false := decide_eq_false (by omega)
  have y3 : ¬ y = 0 := by omega
  have y4 : decide (y ≤ 0) = false := decide_eq_false (by omega)
  have e1 : (x : Int) / (y : Int) = ((x / y : Nat) : Int) := by simp
  have e2 : (x : Int) % (y : Int) = ((x % y : Nat) : Int) := by simp
  have d1 : x / y < 18446744073709551616 := Nat.lt_of_le_of_lt (Nat.div_le_self _ _) hx
  have d2 : x % y < 18446744073709551616 := Nat.lt_of_le_of_lt (Nat.mod_le _ _) hx
  generalize x / y = a at *
  generalize x % y = b at *
  have hk0 : ((0 : Nat) : Int) = 0 := rfl
  rw [hk0]
  go_enter Tryd.func31, Tryd.ntmps31
  go_wp2_with fail
  go_quiet (fail)
  go_wp2_with fail
  go_ret2
  exact ⟨by rw [← e2]; rfl, nq, rfl⟩

theorem scale_small (v lo hi : Int) (k : Nat) (w : World) (hv : -9223372036854775808 ≤ v ∧ v < 9223372036854775808) (hlo : -9223372036854775808 ≤ lo ∧ lo < 9223372036854775808) (hhi : -9223372036854775808 ≤ hi ∧ hi < 9223372036854775808) (h1 : lo ≤ v) (h2 : v ≤ hi) (h3 : 1 ≤ k) (h4 : k ≤ 16) (hs : (v - lo).toNat * 2 ^ k < 1000000) (hh : hi - lo < 1000000) :
    Calls Tryd.prog 15 #[.int .i64 v, .int .i64 lo, .int .i64 hi, .int .i64 k] w fun e w' => e = .returned (.int .u32 (scl v lo hi k)) ∧ ∃ q, w' = w.drewN q := by
  refine scale_via v lo hi k w hv hlo hhi h1 h2 h3 h4 fun D n W hD hn => ?_
  rw [← hD] at hs
  have e1 : D / 18446744073709551616 = 0 := by omega
  have e2 : D % 18446744073709551616 = D := by omega
  rw [e1, e2]
  refine (div_small D n W (by omega) (by omega) (by omega)).mono ?_
  rintro e w' ⟨rfl, h⟩
  exact ⟨_, rfl, h⟩

/-- the rows of the sanity test -/
def exR : List (List Int) := [[8, 1], [1, 8], [1, 1]]
theorem exRows : rowsOf exR 3 = [[(1, 8), (2, 1)], [(1, 1), (2, 8)], [(1, 1), (2, 1)]] := by decide
theorem exOk (id : Int) (h : id = 1 ∨ id = 2) : ScOk (rowsOf exR 3) id 1 3 := by
  rw [exRows]
  intro i hi hn
  have e : i = 0 ∨ i = 1 ∨ i = 2 := by omega
  rcases h with rfl | rfl <;> rcases e with rfl | rfl | rfl <;> refine ⟨by decide, fun w => ?_⟩ <;> rw [coordR, if_pos hn] <;> exact scale_small _ _ _ _ _ (by decide) (by decide) (by decide) (by decide) (by decide) (by decide) (by decide) (by decide) (by decide)
theorem exKeys : (List.range 3).map (keyR (rowsOf exR 3) 1 2 1 3) = [3, 1, 0] := by rw [exRows]; decide
theorem exCov : cov 1 ⟨0, 0, 1, 0⟩ = [(0, 0), (3, 3)] := by decide
end Go.Proofs.YtnpkbjekodjcjaaDoor
