/- The contracts of Len64 and LeadingZeros64. -/
import Derived.Test.YtnpkbjekodjcjaaDoorX
set_option linter.all false
namespace Go.Proofs.YtnpkbjekodjcjaaDoor
open Go.RowKit Go.Fen Hil
set_option linter.unusedVariables false
set_option maxHeartbeats 4000000

/-- the length of a number -/
def IsLen (x n : Nat) : Prop := x < 2 ^ n ∧ (0 < x → 2 ^ n ≤ 2 * x)
theorem len_up (x s d n : Nat) (hs : s = 2 ^ d) (hx : s ≤ x) (h : IsLen (x / s) n) : IsLen x (n + d) := by
  have h2 := two_pos d
  rw [← hs] at h2
  have hd : 0 < x / s := Nat.div_pos hx h2
  have hm := Nat.div_add_mod x s
  have hl := Nat.mod_lt x h2
  obtain ⟨h3, h4⟩ := h
  have h4 := h4 hd
  unfold IsLen
  rw [Nat.pow_add, ← hs]
  constructor
  · rw [← Nat.div_lt_iff_lt_mul h2]; exact h3
  · intro _
    calc 2 ^ n * s ≤ 2 * (x / s) * s := Nat.mul_le_mul_right _ h4
      _ = 2 * (s * (x / s)) := by rw [Nat.mul_assoc, Nat.mul_comm (x / s)]
      _ ≤ 2 * x := Nat.mul_le_mul_left _ (by omega)
/-- the table of lengths -/
def len8 : List UInt8 := [0, 1] ++ List.replicate 2 2 ++ List.replicate 4 3 ++ List.replicate 8 4 ++ List.replicate 16 5 ++ List.replicate 32 6 ++ List.replicate 64 7 ++ List.replicate 128 8
theorem len8_ok : ∀ x, x < 256 → x < 2 ^ (len8.getD x 0).toNat ∧ (0 < x → 2 ^ (len8.getD x 0).toNat ≤ 2 * x) ∧ (len8.getD x 0).toNat ≤ 8 := by decide +kernel
theorem len8_get (bs : ByteArray) (x : Nat) (h : x < bs.size) (e : bs.data = len8.toArray) : (bs[x]'h).toNat = (len8.getD x 0).toNat := by
  obtain ⟨a⟩ := bs
  simp only at e
  subst e
  have h' : x < len8.length := h
  rw [List.getD, List.getElem?_eq_getElem h']
  rfl
theorem wrap_small (z : Int) (h0 : 0 ≤ z) (h1 : z ≤ 1000) : RowKit.wrap64 z = z := by
  unfold RowKit.wrap64
  omega
theorem wrap_a (t : Nat) (h : t ≤ 8) : RowKit.wrap64 (RowKit.wrap64 (t : Int)) = ((t + 0 : Nat) : Int) := by
  unfold RowKit.wrap64
  omega
theorem wrap_b (d t : Nat) (h : t ≤ 8) (hd : d ≤ 56) : RowKit.wrap64 ((d : Int) + RowKit.wrap64 (t : Int)) = ((t + d : Nat) : Int) := by
  unfold RowKit.wrap64
  omega

set_option maxRecDepth 20000 in
theorem len64_any (x : Nat) (w : World) (hx : x < 18446744073709551616) : Calls Tryd.prog 48 #[.int .u64 x] w fun e w' => ∃ n : Nat, e = .returned (.int .i64 n) ∧ n ≤ 64 ∧ IsLen x n ∧ w' = w := by
  by_cases h0 : 4294967296 ≤ x
  · have d0 : decide ((4294967296 : Int) ≤ (x : Int)) = true := decide_eq_true (by omega)
    have d0' : decide (4294967296 ≤ x) = true := decide_eq_true (by omega)
    obtain ⟨y0, hy0⟩ : ∃ y, y = x / 4294967296 := ⟨_, rfl⟩
    have ey0 : (x : Int) / 4294967296 = (y0 : Int) := by omega
    by_cases h1 : 65536 ≤ y0
    · have d1 : decide ((65536 : Int) ≤ (y0 : Int)) = true := decide_eq_true (by omega)
      have d1' : decide (65536 ≤ y0) = true := decide_eq_true (by omega)
      obtain ⟨y1, hy1⟩ : ∃ y, y = y0 / 65536 := ⟨_, rfl⟩
      have ey1 : (y0 : Int) / 65536 = (y1 : Int) := by omega
      by_cases h2 : 256 ≤ y1
      · have d2 : decide ((256 : Int) ≤ (y1 : Int)) = true := decide_eq_true (by omega)
        have d2' : decide (256 ≤ y1) = true := decide_eq_true (by omega)
        obtain ⟨y2, hy2⟩ : ∃ y, y = y1 / 256 := ⟨_, rfl⟩
        have ey2 : (y1 : Int) / 256 = (y2 : Int) := by omega
        obtain ⟨l1, l2, l3⟩ := len8_ok y2 (by omega)
        have fin : IsLen x ((len8.getD y2 0).toNat + 56) := by
          have h0 : IsLen y2 (len8.getD y2 0).toNat := ⟨l1, l2⟩
          have h0 := len_up y1 256 8 _ rfl (by omega) (by rw [show y1 / 256 = y2 by omega]; exact h0)
          have h0 := len_up y0 65536 16 _ rfl (by omega) (by rw [show y0 / 65536 = y1 by omega]; exact h0)
          have h0 := len_up x 4294967296 32 _ rfl (by omega) (by rw [show x / 4294967296 = y0 by omega]; exact h0)
          exact h0
        have FIN := Lib.hid fin
        have L3 := Lib.hid l3
        have vb : y2 < 256 := by omega
        have vb' : (y2 : Int) < 256 := by omega
        have vc : (y2 : Int) % 256 = (y2 : Int) := by omega
        clear l1 l2 l3 fin hx h0 hy0 h1 hy1 h2 hy2 
        go_enter Tryd.func48, Tryd.ntmps48
        go_wp2_with fail
        go_ret
        have l3 := L3.out
        refine ⟨(len8.getD y2 0).toNat + 56, congrArg (fun z => Ending.returned (Value.int .i64 z)) ?_, by omega, FIN.out, rfl⟩
        show RowKit.wrap64 _ = _
        rw [len8_get _ _ _ (by kernel_rfl)]
        generalize (len8.getD y2 0).toNat = t at *
        first | exact wrap_a t l3 | exact wrap_b 56 t l3 (by decide)
      · have d2 : decide ((256 : Int) ≤ (y1 : Int)) = false := decide_eq_false (by omega)
        have d2' : decide (256 ≤ y1) = false := decide_eq_false (by omega)
        obtain ⟨l1, l2, l3⟩ := len8_ok y1 (by omega)
        have fin : IsLen x ((len8.getD y1 0).toNat + 48) := by
          have h0 : IsLen y1 (len8.getD y1 0).toNat := ⟨l1, l2⟩
          have h0 := len_up y0 65536 16 _ rfl (by omega) (by rw [show y0 / 65536 = y1 by omega]; exact h0)
          have h0 := len_up x 4294967296 32 _ rfl (by omega) (by rw [show x / 4294967296 = y0 by omega]; exact h0)
          exact h0
        have FIN := Lib.hid fin
        have L3 := Lib.hid l3
        have vb : y1 < 256 := by omega
        have vb' : (y1 : Int) < 256 := by omega
        have vc : (y1 : Int) % 256 = (y1 : Int) := by omega
        clear l1 l2 l3 fin hx h0 hy0 h1 hy1 h2
        go_enter Tryd.func48, Tryd.ntmps48
        go_wp2_with fail
        go_ret
        have l3 := L3.out
        refine ⟨(len8.getD y1 0).toNat + 48, congrArg (fun z => Ending.returned (Value.int .i64 z)) ?_, by omega, FIN.out, rfl⟩
        show RowKit.wrap64 _ = _
        rw [len8_get _ _ _ (by kernel_rfl)]
        generalize (len8.getD y1 0).toNat = t at *
        first | exact wrap_a t l3 | exact wrap_b 48 t l3 (by decide)
    · have d1 : decide ((65536 : Int) ≤ (y0 : Int)) = false := decide_eq_false (by omega)
      have d1' : decide (65536 ≤ y0) = false := decide_eq_false (by omega)
      by_cases h2 : 256 ≤ y0
      · have d2 : decide ((256 : Int) ≤ (y0 : Int)) = true := decide_eq_true (by omega)
        have d2' : decide (256 ≤ y0) = true := decide_eq_true (by omega)
        obtain ⟨y2, hy2⟩ : ∃ y, y = y0 / 256 := ⟨_, rfl⟩
        have ey2 : (y0 : Int) / 256 = (y2 : Int) := by omega
        obtain ⟨l1, l2, l3⟩ := len8_ok y2 (by omega)
        have fin : IsLen x ((len8.getD y2 0).toNat + 40) := by
          have h0 : IsLen y2 (len8.getD y2 0).toNat := ⟨l1, l2⟩
          have h0 := len_up y0 256 8 _ rfl (by omega) (by rw [show y0 / 256 = y2 by omega]; exact h0)
          have h0 := len_up x 4294967296 32 _ rfl (by omega) (by rw [show x / 4294967296 = y0 by omega]; exact h0)
          exact h0
        have FIN := Lib.hid fin
        have L3 := Lib.hid l3
        have vb : y2 < 256 := by omega
        have vb' : (y2 : Int) < 256 := by omega
        have vc : (y2 : Int) % 256 = (y2 : Int) := by omega
        clear l1 l2 l3 fin hx h0 hy0 h2 hy2 h1
        go_enter Tryd.func48, Tryd.ntmps48
        go_wp2_with fail
        go_ret
        have l3 := L3.out
        refine ⟨(len8.getD y2 0).toNat + 40, congrArg (fun z => Ending.returned (Value.int .i64 z)) ?_, by omega, FIN.out, rfl⟩
        show RowKit.wrap64 _ = _
        rw [len8_get _ _ _ (by kernel_rfl)]
        generalize (len8.getD y2 0).toNat = t at *
        first | exact wrap_a t l3 | exact wrap_b 40 t l3 (by decide)
      · have d2 : decide ((256 : Int) ≤ (y0 : Int)) = false := decide_eq_false (by omega)
        have d2' : decide (256 ≤ y0) = false := decide_eq_false (by omega)
        obtain ⟨l1, l2, l3⟩ := len8_ok y0 (by omega)
        have fin : IsLen x ((len8.getD y0 0).toNat + 32) := by
          have h0 : IsLen y0 (len8.getD y0 0).toNat := ⟨l1, l2⟩
          have h0 := len_up x 4294967296 32 _ rfl (by omega) (by rw [show x / 4294967296 = y0 by omega]; exact h0)
          exact h0
        have FIN := Lib.hid fin
        have L3 := Lib.hid l3
        have vb : y0 < 256 := by omega
        have vb' : (y0 : Int) < 256 := by omega
        have vc : (y0 : Int) % 256 = (y0 : Int) := by omega
        clear l1 l2 l3 fin hx h0 hy0 h1 h2
        go_enter Tryd.func48, Tryd.ntmps48
        go_wp2_with fail
        go_ret
        have l3 := L3.out
        refine ⟨(len8.getD y0 0).toNat + 32, congrArg (fun z => Ending.returned (Value.int .i64 z)) ?_, by omega, FIN.out, rfl⟩
        show RowKit.wrap64 _ = _
        rw [len8_get _ _ _ (by kernel_rfl)]
        generalize (len8.getD y0 0).toNat = t at *
        first | exact wrap_a t l3 | exact wrap_b 32 t l3 (by decide)
  · have d0 : decide ((4294967296 : Int) ≤ (x : Int)) = false := decide_eq_false (by omega)
    have d0' : decide (4294967296 ≤ x) = false := decide_eq_false (by omega)
    by_cases h1 : 65536 ≤ x
    · have d1 : decide ((65536 : Int) ≤ (x : Int)) = true := decide_eq_true (by omega)
      have d1' : decide (65536 ≤ x) = true := decide_eq_true (by omega)
      obtain ⟨y1, hy1⟩ : ∃ y, y = x / 65536 := ⟨_, rfl⟩
      have ey1 : (x : Int) / 65536 = (y1 : Int) := by omega
      by_cases h2 : 256 ≤ y1
      · have d2 : decide ((256 : Int) ≤ (y1 : Int)) = true := decide_eq_true (by omega)
        have d2' : decide (256 ≤ y1) = true := decide_eq_true (by omega)
        obtain ⟨y2, hy2⟩ : ∃ y, y = y1 / 256 := ⟨_, rfl⟩
        have ey2 : (y1 : Int) / 256 = (y2 : Int) := by omega
        obtain ⟨l1, l2, l3⟩ := len8_ok y2 (by omega)
        have fin : IsLen x ((len8.getD y2 0).toNat + 24) := by
          have h0 : IsLen y2 (len8.getD y2 0).toNat := ⟨l1, l2⟩
          have h0 := len_up y1 256 8 _ rfl (by omega) (by rw [show y1 / 256 = y2 by omega]; exact h0)
          have h0 := len_up x 65536 16 _ rfl (by omega) (by rw [show x / 65536 = y1 by omega]; exact h0)
          exact h0
        have FIN := Lib.hid fin
        have L3 := Lib.hid l3
        have vb : y2 < 256 := by omega
        have vb' : (y2 : Int) < 256 := by omega
        have vc : (y2 : Int) % 256 = (y2 : Int) := by omega
        clear l1 l2 l3 fin hx h1 hy1 h2 hy2 h0
        go_enter Tryd.func48, Tryd.ntmps48
        go_wp2_with fail
        go_ret
        have l3 := L3.out
        refine ⟨(len8.getD y2 0).toNat + 24, congrArg (fun z => Ending.returned (Value.int .i64 z)) ?_, by omega, FIN.out, rfl⟩
        show RowKit.wrap64 _ = _
        rw [len8_get _ _ _ (by kernel_rfl)]
        generalize (len8.getD y2 0).toNat = t at *
        first | exact wrap_a t l3 | exact wrap_b 24 t l3 (by decide)
      · have d2 : decide ((256 : Int) ≤ (y1 : Int)) = false := decide_eq_false (by omega)
        have d2' : decide (256 ≤ y1) = false := decide_eq_false (by omega)
        obtain ⟨l1, l2, l3⟩ := len8_ok y1 (by omega)
        have fin : IsLen x ((len8.getD y1 0).toNat + 16) := by
          have h0 : IsLen y1 (len8.getD y1 0).toNat := ⟨l1, l2⟩
          have h0 := len_up x 65536 16 _ rfl (by omega) (by rw [show x / 65536 = y1 by omega]; exact h0)
          exact h0
        have FIN := Lib.hid fin
        have L3 := Lib.hid l3
        have vb : y1 < 256 := by omega
        have vb' : (y1 : Int) < 256 := by omega
        have vc : (y1 : Int) % 256 = (y1 : Int) := by omega
        clear l1 l2 l3 fin hx h1 hy1 h0 h2
        go_enter Tryd.func48, Tryd.ntmps48
        go_wp2_with fail
        go_ret
        have l3 := L3.out
        refine ⟨(len8.getD y1 0).toNat + 16, congrArg (fun z => Ending.returned (Value.int .i64 z)) ?_, by omega, FIN.out, rfl⟩
        show RowKit.wrap64 _ = _
        rw [len8_get _ _ _ (by kernel_rfl)]
        generalize (len8.getD y1 0).toNat = t at *
        first | exact wrap_a t l3 | exact wrap_b 16 t l3 (by decide)
    · have d1 : decide ((65536 : Int) ≤ (x : Int)) = false := decide_eq_false (by omega)
      have d1' : decide (65536 ≤ x) = false := decide_eq_false (by omega)
      by_cases h2 : 256 ≤ x
      · have d2 : decide ((256 : Int) ≤ (x : Int)) = true := decide_eq_true (by omega)
        have d2' : decide (256 ≤ x) = true := decide_eq_true (by omega)
        obtain ⟨y2, hy2⟩ : ∃ y, y = x / 256 := ⟨_, rfl⟩
        have ey2 : (x : Int) / 256 = (y2 : Int) := by omega
        obtain ⟨l1, l2, l3⟩ := len8_ok y2 (by omega)
        have fin : IsLen x ((len8.getD y2 0).toNat + 8) := by
          have h0 : IsLen y2 (len8.getD y2 0).toNat := ⟨l1, l2⟩
          have h0 := len_up x 256 8 _ rfl (by omega) (by rw [show x / 256 = y2 by omega]; exact h0)
          exact h0
        have FIN := Lib.hid fin
        have L3 := Lib.hid l3
        have vb : y2 < 256 := by omega
        have vb' : (y2 : Int) < 256 := by omega
        have vc : (y2 : Int) % 256 = (y2 : Int) := by omega
        clear l1 l2 l3 fin hx h2 hy2 h0 h1
        go_enter Tryd.func48, Tryd.ntmps48
        go_wp2_with fail
        go_ret
        have l3 := L3.out
        refine ⟨(len8.getD y2 0).toNat + 8, congrArg (fun z => Ending.returned (Value.int .i64 z)) ?_, by omega, FIN.out, rfl⟩
        show RowKit.wrap64 _ = _
        rw [len8_get _ _ _ (by kernel_rfl)]
        generalize (len8.getD y2 0).toNat = t at *
        first | exact wrap_a t l3 | exact wrap_b 8 t l3 (by decide)
      · have d2 : decide ((256 : Int) ≤ (x : Int)) = false := decide_eq_false (by omega)
        have d2' : decide (256 ≤ x) = false := decide_eq_false (by omega)
        obtain ⟨l1, l2, l3⟩ := len8_ok x (by omega)
        have fin : IsLen x ((len8.getD x 0).toNat + 0) := by
          have h0 : IsLen x (len8.getD x 0).toNat := ⟨l1, l2⟩
          exact h0
        have FIN := Lib.hid fin
        have L3 := Lib.hid l3
        have vb : x < 256 := by omega
        have vb' : (x : Int) < 256 := by omega
        have vc : (x : Int) % 256 = (x : Int) := by omega
        clear l1 l2 l3 fin hx  h0 h1 h2
        go_enter Tryd.func48, Tryd.ntmps48
        go_wp2_with fail
        go_ret
        have l3 := L3.out
        refine ⟨(len8.getD x 0).toNat + 0, congrArg (fun z => Ending.returned (Value.int .i64 z)) ?_, by omega, FIN.out, rfl⟩
        show RowKit.wrap64 _ = _
        rw [len8_get _ _ _ (by kernel_rfl)]
        generalize (len8.getD x 0).toNat = t at *
        first | exact wrap_a t l3 | exact wrap_b 0 t l3 (by decide)

theorem zeros_any (x : Nat) (w : World) (hx : x < 18446744073709551616) : Calls Tryd.prog 40 #[.int .u64 x] w fun e w' => ∃ n s : Nat, e = .returned (.int .i64 s) ∧ n + s = 64 ∧ IsLen x n ∧ w' = w := by
  have C := Lib.hid (len64_any x w hx)
  go_enter Tryd.func40, Tryd.ntmps40
  go_wp2_with fail
  refine C.out.mono ?_
  rintro e w' ⟨n, rfl, hn, hL, rfl⟩
  obtain ⟨s, hs⟩ : ∃ s, n + s = 64 := ⟨64 - n, by omega⟩
  have e1 : 64 - (n : Int) = (s : Int) := by omega
  have HL := Lib.hid hL
  have HS := Lib.hid hs
  go_wp2_with fail
  go_ret
  exact ⟨n, s, rfl, HS.out, HL.out, rfl⟩
end Go.Proofs.YtnpkbjekodjcjaaDoor
