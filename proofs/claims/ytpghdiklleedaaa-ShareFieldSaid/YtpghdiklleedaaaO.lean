/- The walk of ShareField. -/
import Derived.Test.YtpghdiklleedaaaN
set_option linter.all false
namespace Go.Proofs.Ytpghdiklleedaaa
open Go.RowKit Go.Fen Gf
set_option linter.unusedVariables false
set_option maxHeartbeats 400000

theorem undef_no {b : Bool} (h : some undef = some (Value.bool b)) : False := by cases h

set_option maxHeartbeats 2000000 in
theorem field_walk (a b c : BitVec 8) (w : World) : Calls Try.prog 4 #[.int .u8 a.toNat, .int .u8 b.toNat, .int .u8 c.toNat] w fun e w' => e = .returned (.bool true) ∧ Below w.heap.size w w' := by
  have hs := Lib.hid (sanity_any w)
  have m1 := Lib.hid (fun W => mul_any a b W)
  have i1 := Lib.hid (fun W => inv_any a W)
  have m2 : Hid (∀ W, Calls Try.prog 12 #[.int .u8 b.toNat, .int .u8 a.toNat] W fun e w' => e = .returned (.int .u8 (mul a b).toNat) ∧ W = w') := Lib.hid (fun W => by have := mul_any b a W; rw [mul_comm b a] at this; exact this)
  have m3 : Hid (∀ W, Calls Try.prog 12 #[.int .u8 (mul a b).toNat, .int .u8 c.toNat] W fun e w' => e = .returned (.int .u8 (mul a (mul b c)).toNat) ∧ W = w') := Lib.hid (fun W => by have := mul_any (mul a b) c W; rw [mul_assoc a b c] at this; exact this)
  have m4 := Lib.hid (fun W => mul_any b c W)
  have m5 := Lib.hid (fun W => mul_any a (mul b c) W)
  have m6 : Hid (∀ W, Calls Try.prog 12 #[.int .u8 a.toNat, .int .u8 (b ^^^ c).toNat] W fun e w' => e = .returned (.int .u8 (mul a b ^^^ mul a c).toNat) ∧ W = w') := Lib.hid (fun W => by have := mul_any a (b ^^^ c) W; rw [mul_add a b c] at this; exact this)
  have m7 := Lib.hid (fun W => mul_any a c W)
  have m8 : Hid (∀ W, Calls Try.prog 12 #[.int .u8 a.toNat, .int .u8 1] W fun e w' => e = .returned (.int .u8 a.toNat) ∧ W = w') := Lib.hid (fun W => by have := mul_any a 1#8 W; rw [mul_one a] at this; exact this)
  have m9 : Hid (∀ W, Calls Try.prog 12 #[.int .u8 a.toNat, .int .u8 0] W fun e w' => e = .returned (.int .u8 0) ∧ W = w') := Lib.hid (fun W => by have := mul_any a 0#8 W; rw [mul_zero a] at this; exact this)
  have x1 := u8_xor_bv b c
  have x2 := u8_xor_bv (mul a b) (mul a c)
  have h10 : a ≠ 0#8 → ∀ W, Calls Try.prog 12 #[.int .u8 a.toNat, .int .u8 (inv a).toNat] W fun e w' => e = .returned (.int .u8 1) ∧ W = w' := fun h W => by have := mul_any a (inv a) W; rw [mul_inv a h] at this; exact this
  have h11 : a ≠ 0#8 → ∀ W, Calls Try.prog 14 #[.int .u8 (inv a).toNat] W fun e w' => e = .returned (.int .u8 a.toNat) ∧ Below W.heap.size W w' := fun h W => by have := inv_any (inv a) W; rw [inv_inv h] at this; exact this
  have hz : a ≠ 0#8 → b ≠ 0#8 → mul a b ≠ 0#8 := fun h1 h2 => mul_ne_zero h1 h2
  generalize mul a b ^^^ mul a c = y2 at *
  generalize mul a (mul b c) = y1 at *
  generalize mul b c = bc at *
  generalize mul a c = ac at *
  generalize b ^^^ c = bxc at *
  generalize inv a = v at *
  generalize hab : mul a b = ab at *
  have HAB := Lib.hid hab
  clear hab
  go_enter Try.func4, Try.ntmps4
  go_wp2_with fail
  refine hs.out.mono ?_
  rintro e w1 ⟨rfl, b1⟩
  go_wp2_with fail
  refine (m1.out w1).mono ?_
  rintro e w1' ⟨rfl, rfl⟩
  go_wp2_with fail
  refine (i1.out w1).mono ?_
  rintro e w2 ⟨rfl, b2⟩
  have b3 := Lib.hid (b1.trans (b2.mono b1.size))
  clear b1 b2
  go_wp2_with fail
  refine (m2.out w2).mono ?_
  rintro e w2' ⟨rfl, rfl⟩
  go_wp2_with fail
  refine (m3.out w2).mono ?_
  rintro e w2' ⟨rfl, rfl⟩
  go_wp2_with fail
  refine (m4.out w2).mono ?_
  rintro e w2' ⟨rfl, rfl⟩
  go_wp2_with fail
  refine (m5.out w2).mono ?_
  rintro e w2' ⟨rfl, rfl⟩
  go_wp2_with fail
  refine (m6.out w2).mono ?_
  rintro e w2' ⟨rfl, rfl⟩
  go_wp2_with fail
  refine (m7.out w2).mono ?_
  rintro e w2' ⟨rfl, rfl⟩
  go_wp2_with fail
  refine (m8.out w2).mono ?_
  rintro e w2' ⟨rfl, rfl⟩
  go_wp2_with fail
  refine (m9.out w2).mono ?_
  rintro e w2' ⟨rfl, rfl⟩
  by_cases ha : a = 0#8
  · subst ha
    have e0 : ab = 0#8 := by rw [← HAB.out, zero_mul]
    subst e0
    go_wp2_with fail
    · exact (undef_no (by assumption)).elim
    · exact (undef_no (by assumption)).elim
    · go_ret
      exact ⟨rfl, b3.out⟩
  · have ha1 : ((a.toNat : Int) == 0) = false := by have := ne_zero_nat ha; simp; omega
    have ha2 : ¬ ((a.toNat : Int) = 0) := by have := ne_zero_nat ha; omega
    have H10 := Lib.hid (h10 ha)
    have H11 := Lib.hid (h11 ha)
    clear h10 h11
    go_wp2_with fail
    refine (H10.out w2).mono ?_
    rintro e w2' ⟨rfl, rfl⟩
    go_wp2_with fail
    refine (H11.out w2).mono ?_
    rintro e w4 ⟨rfl, b4⟩
    have b5 := Lib.hid (b3.out.trans (b4.mono b3.out.size))
    clear b4
    by_cases hb : b = 0#8
    · subst hb
      have e0 : ab = 0#8 := by rw [← HAB.out, mul_zero]
      subst e0
      clear hz
      go_wp2_with fail
      go_ret
      exact ⟨rfl, b5.out⟩
    · have hab := hz ha hb
      have hab1 : ((ab.toNat : Int) == 0) = false := by have := ne_zero_nat hab; simp; omega
      have hab2 : ¬ ((ab.toNat : Int) = 0) := by have := ne_zero_nat hab; omega
      clear hz hab ha hb
      go_wp2_with fail
      go_ret
      exact ⟨rfl, b5.out⟩
end Go.Proofs.Ytpghdiklleedaaa
