/- The contracts of the least and of the greatest number of a slice; comparison. -/
import Derived.Test.YtnpkbjekodjcjaaDoorK
set_option linter.all false
namespace Go.Proofs.YtnpkbjekodjcjaaDoor
open Go.RowKit Go.Fen Hil
set_option linter.unusedVariables false
set_option maxHeartbeats 4000000

/-- a slice of numbers lies in memory -/
def IntsM (w : World) (a : Option Addr) (L : List Int) : Prop := (a = none ∧ L.length = 0) ∨ ∃ g o, a = some ⟨g, o, none⟩ ∧ g < w.heap.size ∧ ∀ i, i < L.length → w.cell? ⟨g, o + i, none⟩ = some (.int .i64 (L.getD i 0))
theorem IntsM.below {w w' : World} {B : Nat} {a : Option Addr} {L : List Int} (h : IntsM w a L) (hb : Below B w w') (hB : w.heap.size ≤ B) : IntsM w' a L := by
  rcases h with h | ⟨g, o, ea, hg, hc⟩
  · exact .inl h
  · exact .inr ⟨g, o, ea, Nat.lt_of_lt_of_le hg hb.size, fun i hi => (hb.cell (p := ⟨g, o + i, none⟩) (Nat.lt_of_lt_of_le hg hB)).trans (hc i hi)⟩

/-- the least of the first k numbers, and the greatest -/
def mnU (L : List Int) : Nat → Int
  | 0 => L.getD 0 0
  | k + 1 => min (mnU L k) (L.getD k 0)
def mxU (L : List Int) : Nat → Int
  | 0 => L.getD 0 0
  | k + 1 => max (mxU L k) (L.getD k 0)

theorem min_any (a : Option Addr) (L : List Int) (n c : Nat) (w : World) (en : n = L.length) (h0 : 0 < n) (hn : n ≤ 1000000) (hM : IntsM w a L) :
    Calls Tryd.prog 43 #[.slice a n c] w fun e w' => e = .returned (.int .i64 (mnU L n)) ∧ w' = w := by
  obtain ⟨g, o, ea, hg, hc⟩ : ∃ g o, a = some ⟨g, o, none⟩ ∧ g < w.heap.size ∧ ∀ i, i < L.length → w.cell? ⟨g, o + i, none⟩ = some (.int .i64 (L.getD i 0)) := by
    rcases hM with h | h
    · omega
    · exact h
  subst ea
  obtain ⟨r, hr⟩ : ∃ r, r = mnU L n := ⟨_, rfl⟩
  rw [← hr]
  have RS := Lib.hid hr
  have HC := Lib.hid hc
  have EN := Lib.hid en
  have c0 := hc 0 (by omega)
  have n1 : ¬ (n : Int) < 1 := by omega
  have n0 : (0 : Int) < (n : Int) := by omega
  obtain ⟨x0, hx0⟩ : ∃ x, x = L.getD 0 0 := ⟨_, rfl⟩
  rw [← hx0, Nat.add_zero] at c0
  have X0 := Lib.hid hx0
  clear hr hc hM en hg hx0
  go_enter Tryd.func43, Tryd.ntmps43
  go_wp2_with fail
  go_loopw [3, 4] (fun vm iv wr => ∃ k : Nat, 1 ≤ k ∧ k ≤ n ∧ iv = .int .i64 k ∧ vm = .int .i64 (mnU L k) ∧ wr = w) (fun _ iv _ => n - (intOf iv).toNat)
  case atStart => exact ⟨1, by omega, by omega, rfl, by rw [X0.out]; show _ = Value.int .i64 (min (L.getD 0 0) (L.getD 0 0)); rw [Int.min_self], rfl⟩
  case round =>
    obtain ⟨k, h1, hk, rfl, rfl, rfl⟩ := hrel
    by_cases hkn : k < n
    · have ki : (k : Int) < (n : Int) := by omega
      have hc := HC.out k (by rw [← EN.out]; exact hkn)
      have ms : mnU L (k + 1) = min (mnU L k) (L.getD k 0) := rfl
      have MS := Lib.hid ms
      obtain ⟨m, hm⟩ : ∃ m, m = mnU L k := ⟨_, rfl⟩
      obtain ⟨x, hx⟩ : ∃ x, x = L.getD k 0 := ⟨_, rfl⟩
      rw [← hx] at hc
      rw [← hm]
      have HM := Lib.hid hm
      have HX := Lib.hid hx
      have HKN := Lib.hid hkn
      clear hm hx ms hkn hk
      go_wp2_with fail
      go_roundw
      case rel => exact ⟨k + 1, by omega, HKN.out, by go_num, by rw [MS.out, ← HM.out, ← HX.out]; congr 1; rw [Int.min_def]; split <;> split <;> omega, trivial⟩
      case measure => have := HKN.out; simp [intOf] <;> omega
    · obtain rfl : k = n := by omega
      have ki : ¬ (k : Int) < (k : Int) := by omega
      rw [← RS.out]
      go_wp2_with fail
      go_ret
      exact ⟨rfl, rfl⟩
theorem max_any (a : Option Addr) (L : List Int) (n c : Nat) (w : World) (en : n = L.length) (h0 : 0 < n) (hn : n ≤ 1000000) (hM : IntsM w a L) :
    Calls Tryd.prog 44 #[.slice a n c] w fun e w' => e = .returned (.int .i64 (mxU L n)) ∧ w' = w := by
  obtain ⟨g, o, ea, hg, hc⟩ : ∃ g o, a = some ⟨g, o, none⟩ ∧ g < w.heap.size ∧ ∀ i, i < L.length → w.cell? ⟨g, o + i, none⟩ = some (.int .i64 (L.getD i 0)) := by
    rcases hM with h | h
    · omega
    · exact h
  subst ea
  obtain ⟨r, hr⟩ : ∃ r, r = mxU L n := ⟨_, rfl⟩
  rw [← hr]
  have RS := Lib.hid hr
  have HC := Lib.hid hc
  have EN := Lib.hid en
  have c0 := hc 0 (by omega)
  have n1 : ¬ (n : Int) < 1 := by omega
  have n0 : (0 : Int) < (n : Int) := by omega
  obtain ⟨x0, hx0⟩ : ∃ x, x = L.getD 0 0 := ⟨_, rfl⟩
  rw [← hx0, Nat.add_zero] at c0
  have X0 := Lib.hid hx0
  clear hr hc hM en hg hx0
  go_enter Tryd.func44, Tryd.ntmps44
  go_wp2_with fail
  go_loopw [3, 4] (fun vm iv wr => ∃ k : Nat, 1 ≤ k ∧ k ≤ n ∧ iv = .int .i64 k ∧ vm = .int .i64 (mxU L k) ∧ wr = w) (fun _ iv _ => n - (intOf iv).toNat)
  case atStart => exact ⟨1, by omega, by omega, rfl, by rw [X0.out]; show _ = Value.int .i64 (max (L.getD 0 0) (L.getD 0 0)); rw [Int.max_self], rfl⟩
  case round =>
    obtain ⟨k, h1, hk, rfl, rfl, rfl⟩ := hrel
    by_cases hkn : k < n
    · have ki : (k : Int) < (n : Int) := by omega
      have hc := HC.out k (by rw [← EN.out]; exact hkn)
      have ms : mxU L (k + 1) = max (mxU L k) (L.getD k 0) := rfl
      have MS := Lib.hid ms
      obtain ⟨m, hm⟩ : ∃ m, m = mxU L k := ⟨_, rfl⟩
      obtain ⟨x, hx⟩ : ∃ x, x = L.getD k 0 := ⟨_, rfl⟩
      rw [← hx] at hc
      rw [← hm]
      have HM := Lib.hid hm
      have HX := Lib.hid hx
      have HKN := Lib.hid hkn
      clear hm hx ms hkn hk
      go_wp2_with fail
      go_roundw
      case rel => exact ⟨k + 1, by omega, HKN.out, by go_num, by rw [MS.out, ← HM.out, ← HX.out]; congr 1; rw [Int.max_def]; split <;> split <;> omega, trivial⟩
      case measure => have := HKN.out; simp [intOf] <;> omega
    · obtain rfl : k = n := by omega
      have ki : ¬ (k : Int) < (k : Int) := by omega
      rw [← RS.out]
      go_wp2_with fail
      go_ret
      exact ⟨rfl, rfl⟩

theorem notNaN (x : Nat) (w : World) : Calls Tryd.prog 46 #[.int .u64 x] w fun e w' => e = .returned (.bool false) ∧ w' = w := by
  go_enter Tryd.func46, Tryd.ntmps46
  go_wp2
  go_ret
  exact ⟨by simp, rfl⟩

/-- the comparison of two numbers -/
def cmpU (x y : Nat) : Int := if x < y then -1 else if y < x then 1 else 0
theorem compare_any (x y : Nat) (w : World) : Calls Tryd.prog 35 #[.int .u64 x, .int .u64 y] w fun e w' => e = .returned (.int .i64 (cmpU x y)) ∧ w' = w := by
  have N := Lib.hid (fun x => notNaN x w)
  by_cases h1 : x < y
  · have E : cmpU x y = -1 := by rw [cmpU, if_pos h1]
    rw [E]
    have i1 : (x : Int) < (y : Int) := by omega
    clear E h1
    go_enter Tryd.func35, Tryd.ntmps35
    go_wp2_with fail
    refine (N.out x).mono ?_
    rintro e w' ⟨rfl, rfl⟩
    go_wp2_with fail
    refine (N.out y).mono ?_
    rintro e w' ⟨rfl, rfl⟩
    go_wp2_with fail
    go_ret
    exact ⟨rfl, rfl⟩
  · have i1 : ¬ (x : Int) < (y : Int) := by omega
    by_cases h2 : y < x
    · have E : cmpU x y = 1 := by rw [cmpU, if_neg h1, if_pos h2]
      rw [E]
      have i2 : (y : Int) < (x : Int) := by omega
      clear E h1 h2
      go_enter Tryd.func35, Tryd.ntmps35
      go_wp2_with fail
      refine (N.out x).mono ?_
      rintro e w' ⟨rfl, rfl⟩
      go_wp2_with fail
      refine (N.out y).mono ?_
      rintro e w' ⟨rfl, rfl⟩
      go_wp2_with fail
      go_ret
      exact ⟨rfl, rfl⟩
    · have E : cmpU x y = 0 := by rw [cmpU, if_neg h1, if_neg h2]
      rw [E]
      have i2 : ¬ (y : Int) < (x : Int) := by omega
      clear E h1 h2
      go_enter Tryd.func35, Tryd.ntmps35
      go_wp2_with fail
      refine (N.out x).mono ?_
      rintro e w' ⟨rfl, rfl⟩
      go_wp2_with fail
      refine (N.out y).mono ?_
      rintro e w' ⟨rfl, rfl⟩
      go_wp2_with fail
      go_ret
      exact ⟨rfl, rfl⟩
end Go.Proofs.YtnpkbjekodjcjaaDoor
