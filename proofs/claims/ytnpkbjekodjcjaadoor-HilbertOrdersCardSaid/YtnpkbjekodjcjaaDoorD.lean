/- The contracts of the reference's index and Index. -/
import Derived.Test.YtnpkbjekodjcjaaDoorC
set_option linter.all false
namespace Go.Proofs.YtnpkbjekodjcjaaDoor
open Go.RowKit Go.Fen Hil
set_option linter.unusedVariables false
set_option maxHeartbeats 400000

theorem int_two_pow (k : Nat) : (2 : Int) ^ k = ((2 ^ k : Nat) : Int) := by simp

theorem pow_le16 (k : Nat) (h : k ≤ 16) : 2 ^ k ≤ 65536 := Nat.pow_le_pow_right (by decide) h

theorem rindex_any : ∀ (k x y : Nat) (w : World), k ≤ 16 → x < 2 ^ k → y < 2 ^ k →
    Calls Tryd.prog 28 #[.int .i64 k, .int .u32 x, .int .u32 y] w fun e w' => e = .returned (.int .u64 (idx k x y)) ∧ w' = w
  | 0, x, y, w, hk, hx, hy => by
    go_enter Tryd.func28, Tryd.ntmps28
    go_wp2
    go_ret
    exact ⟨rfl, rfl⟩
  | k + 1, x, y, w, hk, hx, hy => by
    obtain ⟨n, hn⟩ : ∃ n, n = k + 1 := ⟨_, rfl⟩
    obtain ⟨s, hs⟩ : ∃ s, s = 2 ^ k := ⟨_, rfl⟩
    have hs0 : 0 < s := by rw [hs]; exact two_pos k
    have hs1 : s ≤ 32768 := by rw [hs]; exact Nat.pow_le_pow_right (by decide) (show k ≤ 15 by omega)
    have hx' : x < 2 * s := by rw [hs]; rw [two_mul_pow] at hx; exact hx
    have hy' : y < 2 * s := by rw [hs]; rw [two_mul_pow] at hy; exact hy
    have h2 : (2 : Int) ^ k = (s : Int) := by rw [hs]; exact int_two_pow k
    have hn0 : ¬ n = 0 := by omega
    have hn1 : (n : Int) - 1 = (k : Int) := by omega
    have hk16 : k ≤ 16 := by omega
    obtain ⟨sq, hsq⟩ : ∃ sq, sq = s * s := ⟨_, rfl⟩
    have hq : (s : Int) * (s : Int) = (sq : Int) := by rw [hsq]; simp
    have hq1 : sq ≤ 1073741824 := by rw [hsq]; exact Nat.mul_le_mul hs1 hs1
    have h4 : 4 ^ k = sq := by rw [hsq, hs]; exact four_sq k
    have lt : ∀ a b, a < s → b < s → idx k a b < sq := fun a b ha hb => by rw [← h4]; rw [hs] at ha hb; exact idx_lt k a b ha hb
    have IH := Lib.hid (fun a b (ha : a < s) (hb : b < s) => rindex_any k a b w hk16 (by rw [← hs]; exact ha) (by rw [← hs]; exact hb))
    have E : idx (k + 1) x y = if x < s then if y < s then idx k y x else sq + idx k x (y - s) else if y < s then 3 * sq + idx k (s - 1 - y) (2 * s - 1 - x) else 2 * sq + idx k (x - s) (y - s) := by
      rw [idx, ← hs, h4]
    have LT := Lib.hid lt
    rw [E, ← hn]
    have HN := Lib.hid hn
    have HS := Lib.hid hs
    clear E lt h4 hn hs hsq hx hy
    by_cases a : x < s
    · by_cases b : y < s
      · rw [if_pos a, if_pos b]
        have CALL := Lib.hid (IH.out y x b a)
        generalize idx k y x = r at *
        have a' : (x : Int) < (s : Int) := by omega
        have b' : (y : Int) < (s : Int) := by omega
        go_enter Tryd.func28, Tryd.ntmps28
        go_wp2_with fail
        refine CALL.out.mono ?_
        rintro e w' ⟨rfl, rfl⟩
        go_wp2_with fail
        go_ret
        exact ⟨rfl, rfl⟩
      · rw [if_pos a, if_neg b]
        have CALL := Lib.hid (IH.out x (y - s) a (by omega))
        have L := LT.out x (y - s) a (by omega)
        generalize idx k x (y - s) = r at *
        have e1 : ((y - s : Nat) : Int) = (y : Int) - (s : Int) := by omega
        rw [e1] at CALL
        have a' : (x : Int) < (s : Int) := by omega
        have b' : ¬ (y : Int) < (s : Int) := by omega
        have c' : (s : Int) ≤ (y : Int) := by omega
        clear e1
        go_enter Tryd.func28, Tryd.ntmps28
        go_wp2_with fail
        refine CALL.out.mono ?_
        rintro e w' ⟨rfl, rfl⟩
        go_wp2_with fail
        go_ret
        exact ⟨by first | rfl | simp, rfl⟩
    · by_cases b : y < s
      · rw [if_neg a, if_pos b]
        have CALL := Lib.hid (IH.out (s - 1 - y) (2 * s - 1 - x) (by omega) (by omega))
        have L := LT.out (s - 1 - y) (2 * s - 1 - x) (by omega) (by omega)
        generalize idx k (s - 1 - y) (2 * s - 1 - x) = r at *
        have e1 : ((s - 1 - y : Nat) : Int) = (s : Int) - 1 - (y : Int) := by omega
        have e2 : ((2 * s - 1 - x : Nat) : Int) = 2 * (s : Int) - 1 - (x : Int) := by omega
        rw [e1, e2] at CALL
        have a' : ¬ (x : Int) < (s : Int) := by omega
        have b' : (y : Int) < (s : Int) := by omega
        have c' : ¬ (s : Int) ≤ (y : Int) := by omega
        clear e1 e2
        go_enter Tryd.func28, Tryd.ntmps28
        go_wp2_with fail
        refine CALL.out.mono ?_
        rintro e w' ⟨rfl, rfl⟩
        go_wp2_with fail
        go_ret
        exact ⟨by first | rfl | simp, rfl⟩
      · rw [if_neg a, if_neg b]
        have CALL := Lib.hid (IH.out (x - s) (y - s) (by omega) (by omega))
        have L := LT.out (x - s) (y - s) (by omega) (by omega)
        generalize idx k (x - s) (y - s) = r at *
        have e1 : ((y - s : Nat) : Int) = (y : Int) - (s : Int) := by omega
        have e2 : ((x - s : Nat) : Int) = (x : Int) - (s : Int) := by omega
        rw [e1, e2] at CALL
        have a' : ¬ (x : Int) < (s : Int) := by omega
        have b' : ¬ (y : Int) < (s : Int) := by omega
        have c' : (s : Int) ≤ (y : Int) := by omega
        clear e1 e2
        go_enter Tryd.func28, Tryd.ntmps28
        go_wp2_with fail
        refine CALL.out.mono ?_
        rintro e w' ⟨rfl, rfl⟩
        go_wp2_with fail
        go_ret
        exact ⟨by first | rfl | simp, rfl⟩
end Go.Proofs.YtnpkbjekodjcjaaDoor
