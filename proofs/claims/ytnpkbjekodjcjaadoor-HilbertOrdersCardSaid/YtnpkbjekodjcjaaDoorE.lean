/- The contract of the reference's point. -/
import Derived.Test.YtnpkbjekodjcjaaDoorD
set_option linter.all false
namespace Go.Proofs.YtnpkbjekodjcjaaDoor
open Go.RowKit Go.Fen Hil
set_option linter.unusedVariables false
set_option maxHeartbeats 400000

theorem rpoint_any : ∀ (k i : Nat) (w : World), k ≤ 16 → i < 4 ^ k →
    Calls Tryd.prog 29 #[.int .i64 k, .int .u64 i] w fun e w' => e = .returned (.tuple #[.int .u32 (pnt k i).1, .int .u32 (pnt k i).2]) ∧ w' = w
  | 0, i, w, hk, hi => by
    go_enter Tryd.func29, Tryd.ntmps29
    go_wp2
    go_ret2
    exact ⟨rfl, rfl⟩
  | k + 1, i, w, hk, hi => by
    obtain ⟨n, hn⟩ : ∃ n, n = k + 1 := ⟨_, rfl⟩
    obtain ⟨s, hs⟩ : ∃ s, s = 2 ^ k := ⟨_, rfl⟩
    have hs0 : 0 < s := by rw [hs]; exact two_pos k
    have hs1 : s ≤ 32768 := by rw [hs]; exact Nat.pow_le_pow_right (by decide) (show k ≤ 15 by omega)
    have h2 : (2 : Int) ^ k = (s : Int) := by rw [hs]; exact int_two_pow k
    have hn0 : ¬ n = 0 := by omega
    have hn1 : (n : Int) - 1 = (k : Int) := by omega
    have hk16 : k ≤ 16 := by omega
    obtain ⟨sq, hsq⟩ : ∃ sq, sq = s * s := ⟨_, rfl⟩
    have hq : (s : Int) * (s : Int) = (sq : Int) := by rw [hsq]; simp
    have hq1 : sq ≤ 1073741824 := by rw [hsq]; exact Nat.mul_le_mul hs1 hs1
    have hq0 : ¬ sq = 0 := by rw [hsq]; have := Nat.mul_pos hs0 hs0; omega
    have h4 : 4 ^ k = sq := by rw [hsq, hs]; exact four_sq k
    have hi4 : i < sq * 4 := by rw [← h4]; rw [Nat.pow_succ] at hi; exact hi
    obtain ⟨m, hm⟩ : ∃ m, m = i % sq := ⟨_, rfl⟩
    obtain ⟨d, hd⟩ : ∃ d, d = i / sq := ⟨_, rfl⟩
    have m1 : (i : Int).tmod (sq : Int) = (m : Int) := by rw [hm]; simp [Int.tmod]
    have m2 : (i : Int) % (sq : Int) = (m : Int) := by rw [hm]; simp
    have d1 : (i : Int) / (sq : Int) = (d : Int) := by rw [hd]; simp
    have d4 : d < 4 := by rw [hd]; exact Nat.div_lt_of_lt_mul hi4
    have ml : m < 4 ^ k := by rw [h4, hm]; exact Nat.mod_lt _ (by omega)
    have PL := pnt_lt k m ml
    have CALL := Lib.hid (rpoint_any k m w hk16 ml)
    have E : pnt (k + 1) i = put s d (pnt k m) := by rw [pnt, ← hs, h4, hm, hd]
    rw [E]
    rw [← hs] at PL
    rw [← hn]
    have i64 : i < 18446744073709551616 := by omega
    have HN := Lib.hid hn
    have HS := Lib.hid hs
    generalize pnt k m = p at *
    obtain ⟨u, v⟩ := p
    obtain ⟨ul, vl⟩ := PL
    simp only at ul vl
    clear E h4 hn hs hsq hi hm hd ml hi4
    have : d = 0 ∨ d = 1 ∨ d = 2 ∨ d = 3 := by omega
    rcases this with rfl | rfl | rfl | rfl
    · go_enter Tryd.func29, Tryd.ntmps29
      go_wp2_with fail
      refine CALL.out.mono ?_
      rintro e w' ⟨rfl, rfl⟩
      go_wp2_with fail
      go_ret2
      exact ⟨rfl, rfl⟩
    · have e1 : ((v + s : Nat) : Int) = (v : Int) + (s : Int) := by omega
      have E : (put s 1 (u, v)).2 = v + s := rfl
      rw [E, e1]
      clear E e1
      go_enter Tryd.func29, Tryd.ntmps29
      go_wp2_with fail
      refine CALL.out.mono ?_
      rintro e w' ⟨rfl, rfl⟩
      go_wp2_with fail
      go_ret2
      exact ⟨rfl, rfl⟩
    · have e1 : ((v + s : Nat) : Int) = (v : Int) + (s : Int) := by omega
      have e2 : ((u + s : Nat) : Int) = (u : Int) + (s : Int) := by omega
      have E : put s 2 (u, v) = (u + s, v + s) := rfl
      rw [E]
      simp only
      rw [e1, e2]
      clear E e1 e2
      go_enter Tryd.func29, Tryd.ntmps29
      go_wp2_with fail
      refine CALL.out.mono ?_
      rintro e w' ⟨rfl, rfl⟩
      go_wp2_with fail
      go_ret2
      exact ⟨rfl, rfl⟩
    · have e1 : ((2 * s - 1 - v : Nat) : Int) = 2 * (s : Int) - 1 - (v : Int) := by omega
      have e2 : ((s - 1 - u : Nat) : Int) = (s : Int) - 1 - (u : Int) := by omega
      have E : put s 3 (u, v) = (2 * s - 1 - v, s - 1 - u) := rfl
      rw [E]
      simp only
      rw [e1, e2]
      clear E e1 e2
      go_enter Tryd.func29, Tryd.ntmps29
      go_wp2_with fail
      refine CALL.out.mono ?_
      rintro e w' ⟨rfl, rfl⟩
      go_wp2_with fail
      go_ret2
      exact ⟨rfl, rfl⟩
end Go.Proofs.YtnpkbjekodjcjaaDoor
