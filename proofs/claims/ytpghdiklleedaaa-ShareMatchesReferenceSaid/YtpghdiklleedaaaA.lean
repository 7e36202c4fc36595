/- The contracts of the two products of bytes. -/
import Derived.Test.YtpghdiklleedaaaRows
import Derived.Test.YtpghdiklleedaaaKit5
import Derived.Test.YtpghdiklleedaaaGfPoly
import Derived.Laws.BitsAllLaws
import Derived.Laws.BitsLemmas
import Derived.Outline
set_option linter.all false
namespace Go.Proofs.Ytpghdiklleedaaa
open Go.RowKit Go.Fen Gf
set_option linter.unusedVariables false
set_option maxHeartbeats 400000

theorem ofInt_i64 (a : Nat) (ha : a < 9223372036854775808) : (BitVec.ofInt 64 (a : Int)).toNat = a := by
  rw [BitVec.ofInt_natCast, BitVec.toNat_ofNat]; exact Nat.mod_eq_of_lt (by omega)
theorem i64_xor_nat (a b : Nat) (ha : a < 65536) (hb : b < 65536) : bits .xor .i64 (a : Int) (b : Int) = ((a ^^^ b : Nat) : Int) := by
  have hx : a ^^^ b < 2 ^ 16 := Nat.xor_lt_two_pow (by omega) (by omega)
  show IntKind.i64.wrap ((BitVec.ofInt 64 (a : Int) ^^^ BitVec.ofInt 64 (b : Int)).toNat : Int) = _
  rw [BitVec.toNat_xor, ofInt_i64 a (by omega), ofInt_i64 b (by omega)]
  have hb' : IntKind.i64.bits = 64 := rfl
  have hs : IntKind.i64.signed = true := rfl
  simp [IntKind.wrap, hb', hs]
  omega
theorem i64_xor_bv (x y : BitVec 8) : bits .xor .i64 (x.toNat : Int) (y.toNat : Int) = ((x ^^^ y).toNat : Int) := by
  rw [i64_xor_nat _ _ (by have := x.isLt; omega) (by have := y.isLt; omega), BitVec.toNat_xor]

theorem xt_hi (x : BitVec 8) (h : 128 ≤ x.toNat) : bits .xor .i64 ((x.toNat : Int) * 2) 283 = ((xt x).toNat : Int) := by
  have e : ∀ n : Fin 256, 128 ≤ n.val → ((2 * n.val) ^^^ 283) = (xt (BitVec.ofFin n)).toNat := by decide +kernel
  have h1 := i64_xor_nat (2 * x.toNat) 283 (by have := x.isLt; omega) (by omega)
  have h2 : (2 * x.toNat ^^^ 283) = (xt x).toNat := e x.toFin h
  rw [h2] at h1
  rw [← h1, show ((x.toNat : Int) * 2) = ((2 * x.toNat : Nat) : Int) by omega]
  rfl
theorem xt_lo (x : BitVec 8) (h : x.toNat < 128) : (x.toNat : Int) * 2 = ((xt x).toNat : Int) := by
  have e : ∀ n : Fin 256, n.val < 128 → 2 * n.val = (xt (BitVec.ofFin n)).toNat := by decide +kernel
  have := e x.toFin h
  have h2 : (xt (BitVec.ofFin x.toFin)).toNat = (xt x).toNat := rfl
  have h3 : x.toFin.val = x.toNat := rfl
  omega
theorem gm_short (n : Nat) : ∀ (x b : BitVec 8), b.toNat < 2 ^ n → ∀ k, gm (n + k) x b = gm n x b := by
  induction n with
  | zero =>
    intro x b hb k
    have e : b = 0#8 := by apply BitVec.eq_of_toNat_eq; simp; omega
    subst e
    induction k generalizing x with
    | zero => rfl
    | succ k ih =>
      have := ih (xt x)
      simp only [Nat.zero_add] at this ⊢
      simp [gm] at this ⊢
      exact this
  | succ n ih =>
    intro x b hb k
    rw [show n + 1 + k = (n + k) + 1 by omega, gm, gm, ih (xt x) (b >>> 1) (by rw [BitVec.toNat_ushiftRight, Nat.shiftRight_eq_div_pow]; rw [Nat.pow_succ] at hb; omega) k]
theorem mul_step (x b : BitVec 8) : mul x b = (if b.getLsbD 0 then x else 0#8) ^^^ mul (xt x) (b >>> 1) := by
  show gm (7 + 1) x b = _ ^^^ gm 8 (xt x) (b >>> 1)
  rw [show gm 8 (xt x) (b >>> 1) = gm 7 (xt x) (b >>> 1) from gm_short 7 _ _ (by rw [BitVec.toNat_ushiftRight, Nat.shiftRight_eq_div_pow]; have := b.isLt; omega) 1]
  rfl
theorem bit0 (b : BitVec 8) : b.getLsbD 0 = decide (b.toNat % 2 = 1) := by
  rw [BitVec.getLsbD, Nat.testBit_zero]
theorem shr1 (b : BitVec 8) : ((b >>> 1).toNat : Int) = (b.toNat : Int) / 2 := by
  rw [BitVec.toNat_ushiftRight, Nat.shiftRight_eq_div_pow]; omega
theorem u8_bit (b : BitVec 8) : bits .and .u8 (b.toNat : Int) 1 = ((b.toNat % 2 : Nat) : Int) := by
  have h := u8_and_nat b.toNat 1 b.isLt (by omega)
  rw [Nat.and_one_is_mod] at h
  exact h

set_option maxHeartbeats 1000000 in
theorem mul_any (a b : BitVec 8) (w : World) : Calls Try.prog 12 #[.int .u8 a.toNat, .int .u8 b.toNat] w fun e w' => e = .returned (.int .u8 (mul a b).toNat) ∧ w = w' := by
  obtain ⟨m, hm⟩ : ∃ m, m = mul a b := ⟨_, rfl⟩
  rw [← hm]
  have ha := a.isLt
  have hb := b.isLt
  have hm0 : 0#8 ^^^ mul a b = m := by rw [hm]; simp
  go_enter Try.func12, Try.ntmps12
  go_wp2
  clear hm
  go_loopw [1, 5, 6] (fun vb vo vx wr => ∃ x y o : BitVec 8, vb = .int .u8 y.toNat ∧ vo = .int .i64 o.toNat ∧ vx = .int .i64 x.toNat ∧ o ^^^ mul x y = m ∧ wr = w) (fun vb _ _ _ => (intOf vb).toNat)
  case atStart => exact ⟨a, b, 0#8, rfl, rfl, rfl, hm0, rfl⟩
  case round =>
    clear hm0 ha hb
    obtain ⟨x, y, o, rfl, rfl, rfl, hinv, rfl⟩ := hrel
    have hx := x.isLt
    have hy := y.isLt
    have ho := o.isLt
    by_cases hy0 : y.toNat = 0
    · have ey : y = 0#8 := by apply BitVec.eq_of_toNat_eq; simpa using hy0
      subst ey
      have em : o = m := by rw [mul_zero] at hinv; simpa using hinv
      subst em
      go_wp2
      go_ret
      exact ⟨rfl, rfl⟩
    · have hy1 : (0 : Int) < (y.toNat : Int) := by omega
      have hbit := u8_bit y
      have hstep := mul_step x y
      rw [bit0] at hstep
      have hsh := shr1 y
      have hlt : (y >>> 1).toNat < y.toNat := by rw [BitVec.toNat_ushiftRight, Nat.shiftRight_eq_div_pow]; omega
      have hxo := i64_xor_bv o x
      generalize hyy : y >>> 1 = y' at *
      by_cases hodd : y.toNat % 2 = 1
      · rw [hodd] at hbit hstep
        simp only [decide_true, if_true] at hstep
        have hinv' : (o ^^^ x) ^^^ mul (xt x) y' = m := by rw [← hinv, hstep, BitVec.xor_assoc]
        generalize o ^^^ x = o' at *
        clear hinv hstep
        by_cases hh : 128 ≤ x.toNat
        · have hxt := xt_hi x hh
          generalize xt x = x' at *
          have h2 : (255 : Int) < (x.toNat : Int) * 2 := by omega
          go_wp2
          refine ⟨⟨x', y', o', by rw [hsh], rfl, by first | rfl | rw [hxt] | (rw [show 2 * (x.toNat : Int) = (x.toNat : Int) * 2 by omega]; first | rfl | rw [hxt]), hinv', trivial⟩, ?_⟩
          simp [intOf]
          omega
        · have hxt := xt_lo x (by omega)
          generalize xt x = x' at *
          have h2 : ¬ (255 : Int) < (x.toNat : Int) * 2 := by omega
          go_wp2
          refine ⟨⟨x', y', o', by rw [hsh], rfl, by first | rfl | rw [hxt] | (rw [show 2 * (x.toNat : Int) = (x.toNat : Int) * 2 by omega]; first | rfl | rw [hxt]), hinv', trivial⟩, ?_⟩
          simp [intOf]
          omega
      · rw [show y.toNat % 2 = 0 by omega] at hbit hstep
        simp only [Nat.zero_ne_one, decide_false, Bool.false_eq_true, if_false] at hstep
        have hinv' : o ^^^ mul (xt x) y' = m := by rw [← hinv, hstep]; simp
        clear hinv hstep hxo
        by_cases hh : 128 ≤ x.toNat
        · have hxt := xt_hi x hh
          generalize xt x = x' at *
          have h2 : (255 : Int) < (x.toNat : Int) * 2 := by omega
          go_wp2
          refine ⟨⟨x', y', o, by rw [hsh], rfl, by first | rfl | rw [hxt] | (rw [show 2 * (x.toNat : Int) = (x.toNat : Int) * 2 by omega]; first | rfl | rw [hxt]), hinv', trivial⟩, ?_⟩
          simp [intOf]
          omega
        · have hxt := xt_lo x (by omega)
          generalize xt x = x' at *
          have h2 : ¬ (255 : Int) < (x.toNat : Int) * 2 := by omega
          go_wp2
          refine ⟨⟨x', y', o, by rw [hsh], rfl, by first | rfl | rw [hxt] | (rw [show 2 * (x.toNat : Int) = (x.toNat : Int) * 2 by omega]; first | rfl | rw [hxt]), hinv', trivial⟩, ?_⟩
          simp [intOf]
          omega

set_option maxHeartbeats 1000000 in
theorem rmul_any (a b : BitVec 8) (w : World) : Calls Try.prog 13 #[.int .u8 a.toNat, .int .u8 b.toNat] w fun e w' => e = .returned (.int .u8 (mul a b).toNat) ∧ w = w' := by
  obtain ⟨m, hm⟩ : ∃ m, m = mul a b := ⟨_, rfl⟩
  rw [← hm]
  have ha := a.isLt
  have hb := b.isLt
  have hm0 : 0#8 ^^^ mul a b = m := by rw [hm]; simp
  go_enter Try.func13, Try.ntmps13
  go_wp2
  clear hm
  go_loopw [5, 6, 7] (fun vo vx vb wr => ∃ x y o : BitVec 8, vb = .int .i64 y.toNat ∧ vo = .int .i64 o.toNat ∧ vx = .int .i64 x.toNat ∧ o ^^^ mul x y = m ∧ wr = w) (fun _ _ vb _ => (intOf vb).toNat)
  case atStart => exact ⟨a, b, 0#8, rfl, rfl, rfl, hm0, rfl⟩
  case round =>
    clear hm0 ha hb
    obtain ⟨x, y, o, rfl, rfl, rfl, hinv, rfl⟩ := hrel
    have hx := x.isLt
    have hy := y.isLt
    have ho := o.isLt
    by_cases hy0 : y.toNat = 0
    · have ey : y = 0#8 := by apply BitVec.eq_of_toNat_eq; simpa using hy0
      subst ey
      have em : o = m := by rw [mul_zero] at hinv; simpa using hinv
      subst em
      go_wp2
      go_ret
      exact ⟨rfl, rfl⟩
    · have hy1 : (0 : Int) < (y.toNat : Int) := by omega
      have hstep := mul_step x y
      rw [bit0] at hstep
      have hsh := shr1 y
      have hlt : (y >>> 1).toNat < y.toNat := by rw [BitVec.toNat_ushiftRight, Nat.shiftRight_eq_div_pow]; omega
      have hxo := i64_xor_bv o x
      generalize hyy : y >>> 1 = y' at *
      by_cases hodd : y.toNat % 2 = 1
      · rw [hodd] at hstep
        simp only [decide_true, if_true] at hstep
        have hbit : (y.toNat : Int) % 2 = 1 := by omega
        have hinv' : (o ^^^ x) ^^^ mul (xt x) y' = m := by rw [← hinv, hstep, BitVec.xor_assoc]
        generalize o ^^^ x = o' at *
        clear hinv hstep
        by_cases hh : 128 ≤ x.toNat
        · have hxt := xt_hi x hh
          generalize xt x = x' at *
          have h2 : (255 : Int) < (x.toNat : Int) * 2 := by omega
          go_wp2
          refine ⟨⟨x', y', o', by rw [hsh], rfl, by first | rfl | rw [hxt] | (rw [show 2 * (x.toNat : Int) = (x.toNat : Int) * 2 by omega]; first | rfl | rw [hxt]), hinv', trivial⟩, ?_⟩
          simp [intOf]
          omega
        · have hxt := xt_lo x (by omega)
          generalize xt x = x' at *
          have h2 : ¬ (255 : Int) < (x.toNat : Int) * 2 := by omega
          go_wp2
          refine ⟨⟨x', y', o', by rw [hsh], rfl, by first | rfl | rw [hxt] | (rw [show 2 * (x.toNat : Int) = (x.toNat : Int) * 2 by omega]; first | rfl | rw [hxt]), hinv', trivial⟩, ?_⟩
          simp [intOf]
          omega
      · rw [show y.toNat % 2 = 0 by omega] at hstep
        have hbit : (y.toNat : Int) % 2 = 0 := by omega
        simp only [Nat.zero_ne_one, decide_false, Bool.false_eq_true, if_false] at hstep
        have hinv' : o ^^^ mul (xt x) y' = m := by rw [← hinv, hstep]; simp
        clear hinv hstep hxo
        by_cases hh : 128 ≤ x.toNat
        · have hxt := xt_hi x hh
          generalize xt x = x' at *
          have h2 : (255 : Int) < (x.toNat : Int) * 2 := by omega
          go_wp2
          refine ⟨⟨x', y', o, by rw [hsh], rfl, by first | rfl | rw [hxt] | (rw [show 2 * (x.toNat : Int) = (x.toNat : Int) * 2 by omega]; first | rfl | rw [hxt]), hinv', trivial⟩, ?_⟩
          simp [intOf]
          omega
        · have hxt := xt_lo x (by omega)
          generalize xt x = x' at *
          have h2 : ¬ (255 : Int) < (x.toNat : Int) * 2 := by omega
          go_wp2
          refine ⟨⟨x', y', o, by rw [hsh], rfl, by first | rfl | rw [hxt] | (rw [show 2 * (x.toNat : Int) = (x.toNat : Int) * 2 by omega]; first | rfl | rw [hxt]), hinv', trivial⟩, ?_⟩
          simp [intOf]
          omega

/-- what the reference's Inv has after k rounds: the product and the power -/
def invS (a : BitVec 8) : Nat → BitVec 8 × BitVec 8
  | 0 => (1#8, a)
  | k + 1 => (mul (invS a k).1 (mul (invS a k).2 (invS a k).2), mul (invS a k).2 (invS a k).2)
theorem invS_inv (a : BitVec 8) : (invS a 7).1 = inv a := by
  have e : ∀ n : Fin 256, (invS (BitVec.ofFin n) 7).1 = inv (BitVec.ofFin n) := by decide +kernel
  exact e a.toFin

theorem rinv_any (a : BitVec 8) (w : World) : Calls Try.prog 15 #[.int .u8 a.toNat] w fun e w' => e = .returned (.int .u8 (inv a).toNat) ∧ w = w' := by
  have hi := Lib.hid (invS_inv a)
  go_enter Try.func15, Try.ntmps15
  go_wp2
  go_loopw [3, 4, 5] (fun vo vp i wr => ∃ k : Nat, k ≤ 7 ∧ i = .int .i64 k ∧ vo = .int .u8 (invS a k).1.toNat ∧ vp = .int .u8 (invS a k).2.toNat ∧ wr = w) (fun _ _ i _ => 7 - (intOf i).toNat)
  case atStart => exact ⟨0, by omega, rfl, rfl, rfl, rfl⟩
  case round =>
    obtain ⟨k, hk, rfl, rfl, rfl, rfl⟩ := hrel
    by_cases hk7 : k < 7
    · have hs : Hid (invS a (k + 1) = (mul (invS a k).1 (mul (invS a k).2 (invS a k).2), mul (invS a k).2 (invS a k).2)) := Lib.hid rfl
      generalize (invS a k).1 = o at *
      generalize (invS a k).2 = p at *
      have h1 := fun w => rmul_any p p w
      have h2 := fun w => rmul_any o (mul p p) w
      generalize mul o (mul p p) = o' at *
      generalize mul p p = p' at *
      have H1 := Lib.hid h1
      have H2 := Lib.hid h2
      clear h1 h2
      go_wp2_with fail
      refine (H1.out _).mono ?_
      rintro e w' ⟨rfl, rfl⟩
      go_wp2_with fail
      refine (H2.out _).mono ?_
      rintro e w' ⟨rfl, rfl⟩
      go_wp2_with fail
      go_roundw
      case rel => exact ⟨k + 1, by omega, by go_num, by rw [hs.out], by rw [hs.out], by trivial⟩
      case measure => simp [intOf] <;> omega
    · have h7 : Hid (k = 7) := Lib.hid (by omega)
      have ho : Hid ((invS a k).1 = inv a) := Lib.hid (by rw [h7.out, hi.out])
      have hge : 7 ≤ k := by omega
      generalize (invS a k).1 = o at *
      generalize (invS a k).2 = p at *
      go_wp2
      go_ret
      exact ⟨by rw [ho.out]; rfl, rfl⟩
end Go.Proofs.Ytpghdiklleedaaa
