/- The contracts of the reference's Index and Point. -/
import Derived.Test.YtnpkbjekodjcjaaDoorE
import Derived.OwnWalk
set_option linter.all false
namespace Go.Proofs.YtnpkbjekodjcjaaDoor
open Go.RowKit Go.Fen Hil
set_option linter.unusedVariables false
set_option maxHeartbeats 400000

theorem four_two (k : Nat) : 4 ^ k = 2 ^ (2 * k) := by rw [Nat.pow_mul]
theorem int_four_pow (k : Nat) : (2 : Int) ^ (2 * k) = ((4 ^ k : Nat) : Int) := by rw [four_two]; simp
theorem four_le16 (k : Nat) (h : k ≤ 16) : 4 ^ k ≤ 4294967296 := Nat.pow_le_pow_right (by decide) h

/-- what Index returns -/
def indexR (k : Int) (x y : Nat) : Nat × Int := if k < 1 ∨ 16 < k ∨ 2 ^ k.toNat ≤ x ∨ 2 ^ k.toNat ≤ y then (0, 1) else (idx k.toNat x y, 0)
/-- what Point returns -/
def pointR (k : Int) (i : Nat) : Nat × Nat × Int := if k < 1 ∨ 16 < k ∨ 4 ^ k.toNat ≤ i then (0, 0, 1) else ((pnt k.toNat i).1, (pnt k.toNat i).2, 0)

theorem rIndex_any (k : Int) (x y : Nat) (w : World) :
    Calls Tryd.prog 12 #[.int .i64 k, .int .u32 x, .int .u32 y] w fun e w' => e = .returned (.tuple #[.int .u64 (indexR k x y).1, .int .i64 (indexR k x y).2]) ∧ w' = w := by
  by_cases k1 : k < 1
  · have E : indexR k x y = (0, 1) := by rw [indexR, if_pos (.inl k1)]
    rw [E]
    go_enter Tryd.func12, Tryd.ntmps12
    go_wp2
    go_ret2
    exact ⟨rfl, rfl⟩
  by_cases k2 : 16 < k
  · have E : indexR k x y = (0, 1) := by rw [indexR, if_pos (.inr (.inl k2))]
    rw [E]
    go_enter Tryd.func12, Tryd.ntmps12
    go_wp2
    go_ret2
    exact ⟨rfl, rfl⟩
  obtain ⟨n, rfl⟩ : ∃ n : Nat, k = n := ⟨k.toNat, by omega⟩
  obtain ⟨s, hs⟩ : ∃ s, s = 2 ^ n := ⟨_, rfl⟩
  have hs0 : 0 < s := by rw [hs]; exact two_pos n
  have hs1 : s ≤ 65536 := by rw [hs]; exact pow_le16 n (by omega)
  have h2 : (2 : Int) ^ n = (s : Int) := by rw [hs]; exact int_two_pow n
  have hn : n ≤ 16 := by omega
  have E : indexR n x y = if s ≤ x ∨ s ≤ y then (0, 1) else (idx n x y, 0) := by
    rw [indexR, Int.toNat_natCast, ← hs]
    by_cases h : s ≤ x ∨ s ≤ y
    · rw [if_pos h, if_pos (.inr (.inr h))]
    · rw [if_neg h, if_neg (by omega)]
  rw [E]
  have CALL := fun (hx : x < s) (hy : y < s) => rindex_any n x y w hn (by rw [← hs]; exact hx) (by rw [← hs]; exact hy)
  have HC := Lib.hid CALL
  have HS := Lib.hid hs
  clear E hs CALL
  by_cases a : s ≤ x
  · rw [if_pos (.inl a)]
    have a' : (s : Int) ≤ (x : Int) := by omega
    go_enter Tryd.func12, Tryd.ntmps12
    go_wp2
    go_ret2
    exact ⟨rfl, rfl⟩
  by_cases b : s ≤ y
  · rw [if_pos (.inr b)]
    have a' : ¬ (s : Int) ≤ (x : Int) := by omega
    have b' : (s : Int) ≤ (y : Int) := by omega
    go_enter Tryd.func12, Tryd.ntmps12
    go_wp2
    go_ret2
    exact ⟨rfl, rfl⟩
  rw [if_neg (by omega)]
  have CALL := Lib.hid (HC.out (by omega) (by omega))
  have a' : ¬ (s : Int) ≤ (x : Int) := by omega
  have b' : ¬ (s : Int) ≤ (y : Int) := by omega
  generalize idx n x y = r at *
  go_enter Tryd.func12, Tryd.ntmps12
  go_wp2_with fail
  refine CALL.out.mono ?_
  rintro e w' ⟨rfl, rfl⟩
  go_wp2_with fail
  go_ret2
  exact ⟨rfl, rfl⟩

theorem rPoint_any (k : Int) (i : Nat) (w : World) :
    Calls Tryd.prog 14 #[.int .i64 k, .int .u64 i] w fun e w' => e = .returned (.tuple #[.int .u32 (pointR k i).1, .int .u32 (pointR k i).2.1, .int .i64 (pointR k i).2.2]) ∧ w' = w := by
  by_cases k1 : k < 1
  · have E : pointR k i = (0, 0, 1) := by rw [pointR, if_pos (.inl k1)]
    rw [E]
    go_enter Tryd.func14, Tryd.ntmps14
    go_wp2
    go_ret3
    exact ⟨rfl, rfl⟩
  by_cases k2 : 16 < k
  · have E : pointR k i = (0, 0, 1) := by rw [pointR, if_pos (.inr (.inl k2))]
    rw [E]
    go_enter Tryd.func14, Tryd.ntmps14
    go_wp2
    go_ret3
    exact ⟨rfl, rfl⟩
  obtain ⟨n, rfl⟩ : ∃ n : Nat, k = n := ⟨k.toNat, by omega⟩
  obtain ⟨s, hs⟩ : ∃ s, s = 4 ^ n := ⟨_, rfl⟩
  have hn : n ≤ 16 := by omega
  have hs1 : s ≤ 4294967296 := by rw [hs]; exact four_le16 n hn
  have h2 : (2 : Int) ^ (2 * n) = (s : Int) := by rw [hs]; exact int_four_pow n
  have E : pointR n i = if s ≤ i then (0, 0, 1) else ((pnt n i).1, (pnt n i).2, 0) := by
    rw [pointR, Int.toNat_natCast, ← hs]
    by_cases h : s ≤ i
    · rw [if_pos h, if_pos (.inr (.inr h))]
    · rw [if_neg h, if_neg (by omega)]
  rw [E]
  have HC := Lib.hid (fun (hi : i < s) => rpoint_any n i w hn (by rw [← hs]; exact hi))
  have HS := Lib.hid hs
  clear E hs
  by_cases a : s ≤ i
  · rw [if_pos a]
    have a' : (s : Int) ≤ (i : Int) := by omega
    go_enter Tryd.func14, Tryd.ntmps14
    go_wp2
    go_ret3
    exact ⟨rfl, rfl⟩
  rw [if_neg a]
  have CALL := Lib.hid (HC.out (by omega))
  have a' : ¬ (s : Int) ≤ (i : Int) := by omega
  generalize pnt n i = r at *
  obtain ⟨u, v⟩ := r
  go_enter Tryd.func14, Tryd.ntmps14
  go_wp2_with fail
  refine CALL.out.mono ?_
  rintro e w' ⟨rfl, rfl⟩
  go_wp2_with fail
  go_ret3
  exact ⟨rfl, rfl⟩
end Go.Proofs.YtnpkbjekodjcjaaDoor
