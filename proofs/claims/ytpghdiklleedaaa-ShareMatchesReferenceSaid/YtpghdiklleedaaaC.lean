/- The table of powers and logarithms, plainly. -/
import Derived.Test.YtpghdiklleedaaaB
set_option linter.all false
namespace Go.Proofs.Ytpghdiklleedaaa
open Go.RowKit Go.Fen Gf
set_option linter.unusedVariables false

/-- the logarithms to the base 3 (0 for 0) -/
def logL : List Nat := [0, 0, 25, 1, 50, 2, 26, 198, 75, 199, 27, 104, 51, 238, 223, 3, 100, 4, 224, 14, 52, 141, 129, 239, 76, 113, 8, 200, 248, 105, 28, 193, 125, 194, 29, 181, 249, 185, 39, 106, 77, 228, 166, 114, 154, 201, 9, 120, 101, 47, 138, 5, 33, 15, 225, 36, 18, 240, 130, 69, 53, 147, 218, 142, 150, 143, 219, 189, 54, 208, 206, 148, 19, 92, 210, 241, 64, 70, 131, 56, 102, 221, 253, 48, 191, 6, 139, 98, 179, 37, 226, 152, 34, 136, 145, 16, 126, 110, 72, 195, 163, 182, 30, 66, 58, 107, 40, 84, 250, 133, 61, 186, 43, 121, 10, 21, 155, 159, 94, 202, 78, 212, 172, 229, 243, 115, 167, 87, 175, 88, 168, 80, 244, 234, 214, 116, 79, 174, 233, 213, 231, 230, 173, 232, 44, 215, 117, 122, 235, 22, 11, 245, 89, 203, 95, 176, 156, 169, 81, 160, 127, 12, 246, 111, 23, 196, 73, 236, 216, 67, 31, 45, 164, 118, 123, 183, 204, 187, 62, 90, 251, 96, 177, 134, 59, 82, 161, 108, 170, 85, 41, 157, 151, 178, 135, 144, 97, 190, 220, 252, 188, 149, 207, 205, 55, 63, 91, 209, 83, 57, 132, 60, 65, 162, 109, 71, 20, 42, 158, 93, 86, 242, 211, 171, 68, 17, 146, 217, 35, 32, 46, 137, 180, 124, 184, 38, 119, 153, 227, 165, 103, 74, 237, 222, 197, 49, 254, 24, 13, 99, 140, 128, 192, 247, 112, 7]
def lg (x : BitVec 8) : Nat := logL.getD x.toNat 0

theorem lg_lt (x : BitVec 8) : lg x < 255 := by
  have e : ∀ n : Fin 256, lg (BitVec.ofFin n) < 255 := by decide +kernel
  exact e x.toFin
theorem lg_one : lg 1#8 = 0 := by decide +kernel
theorem lg_succ (x : BitVec 8) (hx : x ≠ 0#8) (h : lg x < 254) : lg (mul 3#8 x) = lg x + 1 := by
  have e : ∀ n : Fin 256, (BitVec.ofFin n : BitVec 8) ≠ 0#8 → lg (BitVec.ofFin n) < 254 → lg (mul 3#8 (BitVec.ofFin n)) = lg (BitVec.ofFin n) + 1 := by decide +kernel
  exact e x.toFin hx h
theorem lg_pred (x : BitVec 8) (hx : x ≠ 0#8) (h : 0 < lg x) : lg (mul 246#8 x) = lg x - 1 := by
  have e : ∀ n : Fin 256, (BitVec.ofFin n : BitVec 8) ≠ 0#8 → 0 < lg (BitVec.ofFin n) → lg (mul 246#8 (BitVec.ofFin n)) = lg (BitVec.ofFin n) - 1 := by decide +kernel
  exact e x.toFin hx h
theorem lg_zero (x : BitVec 8) (hx : x ≠ 0#8) (h : lg x = 0) : x = 1#8 := by
  have e : ∀ n : Fin 256, (BitVec.ofFin n : BitVec 8) ≠ 0#8 → lg (BitVec.ofFin n) = 0 → (BitVec.ofFin n : BitVec 8) = 1#8 := by decide +kernel
  exact e x.toFin hx h
theorem three_inv : mul 3#8 246#8 = 1#8 := by decide +kernel
theorem pw_ne (n : Nat) : pw n ≠ 0#8 := by
  induction n with
  | zero => decide
  | succ n ih => exact mul_ne_zero (by decide) ih
theorem lg_pw (n : Nat) (h : n < 255) : lg (pw n) = n := by
  induction n with
  | zero => exact lg_one
  | succ n ih => rw [pw, lg_succ _ (pw_ne n) (by rw [ih (by omega)]; omega), ih (by omega)]
theorem pw_lg (x : BitVec 8) (hx : x ≠ 0#8) : pw (lg x) = x := by
  have key : ∀ n x, x ≠ 0#8 → lg x = n → pw n = x := by
    intro n
    induction n with
    | zero => intro x hx h; exact (lg_zero x hx h).symm
    | succ n ih =>
      intro x hx h
      have h1 := lg_pred x hx (by omega)
      have h2 := ih (mul 246#8 x) (mul_ne_zero (by decide) hx) (by omega)
      rw [pw, h2, ← mul_assoc, three_inv, one_mul]
  exact key _ x hx rfl
theorem pw_255 : pw 255 = 1#8 := by
  have h := lg_pw 254 (by omega)
  have h2 : lg (1#8 : BitVec 8) = 0 := lg_one
  have h3 : pw 254 = 246#8 := by
    have h4 : lg (246#8 : BitVec 8) = 254 := by decide +kernel
    rw [← h4]; exact pw_lg _ (by decide)
  rw [show (255 : Nat) = 254 + 1 from rfl, pw, h3, three_inv]
theorem pw_inj (i j : Nat) (hi : i < 255) (hj : j < 255) (h : pw i = pw j) : i = j := by
  rw [← lg_pw i hi, ← lg_pw j hj, h]
theorem pw_period (i : Nat) : pw (i + 255) = pw i := by rw [pw_add, pw_255, mul_one]

theorem get_set_ne {a : Array Value} {i j : Nat} {v : Value} (h : i ≠ j) : (a.setIfInBounds i v)[j]? = a[j]? := by simp [Array.getElem?_setIfInBounds_ne h]
theorem get_set_eq {a : Array Value} {i : Nat} {v : Value} (h : i < a.size) : (a.setIfInBounds i v)[i]? = some v := by simp [h]
theorem tabC_exp (k : Nat) (hk : k ≤ 255) : ∀ i, i < k → (tabC k)[i]? = some (.int .u8 (pw i).toNat) ∧ (tabC k)[i + 255]? = some (.int .u8 (pw i).toNat) := by
  induction k with
  | zero => intro i hi; omega
  | succ k ih =>
    intro i hi
    have hsz := size_tabC k
    rw [tabC]
    by_cases e : i = k
    · subst e
      constructor
      · rw [get_set_ne (by omega), get_set_ne (by omega), get_set_eq (by omega)]
      · rw [get_set_ne (by omega), get_set_eq (by simp; omega)]
    · rw [get_set_ne (by omega), get_set_ne (by omega), get_set_ne (by omega), get_set_ne (by omega), get_set_ne (by omega), get_set_ne (by omega)]
      exact ih (by omega) i (by omega)
theorem tabC_log (k : Nat) (hk : k ≤ 255) : ∀ i, i < k → (tabC k)[510 + (pw i).toNat]? = some (.int .i64 i) := by
  induction k with
  | zero => intro i hi; omega
  | succ k ih =>
    intro i hi
    have hsz := size_tabC k
    rw [tabC]
    by_cases e : i = k
    · subst e
      rw [get_set_eq (by simp; have := (pw i).isLt; omega)]
    · have hne : pw i ≠ pw k := fun h => e (pw_inj i k (by omega) (by omega) h)
      have hne2 : (pw i).toNat ≠ (pw k).toNat := fun h => hne (BitVec.eq_of_toNat_eq h)
      rw [get_set_ne (by omega), get_set_ne (by omega), get_set_ne (by omega)]
      exact ih (by omega) i (by omega)
theorem tab_exp (i : Nat) (hi : i < 510) : theTab[i]? = some (.int .u8 (pw i).toNat) := by
  rw [theTab_eq]
  by_cases h : i < 255
  · exact (tabC_exp 255 (by omega) i h).1
  · have := (tabC_exp 255 (by omega) (i - 255) (by omega)).2
    rw [show i - 255 + 255 = i by omega] at this
    rw [this, ← pw_period (i - 255), show i - 255 + 255 = i by omega]
theorem tab_log (x : BitVec 8) (hx : x ≠ 0#8) : theTab[510 + x.toNat]? = some (.int .i64 (lg x)) := by
  rw [theTab_eq]
  have := tabC_log 255 (by omega) (lg x) (lg_lt x)
  rwa [pw_lg x hx] at this
theorem mul_lg (a b : BitVec 8) (ha : a ≠ 0#8) (hb : b ≠ 0#8) : pw (lg a + lg b) = mul a b := by rw [pw_add, pw_lg a ha, pw_lg b hb]
theorem div_lg (a b : BitVec 8) (ha : a ≠ 0#8) (hb : b ≠ 0#8) : pw (lg a + 255 - lg b) = mul a (inv b) := by
  have h : mul (pw (lg a + 255 - lg b)) b = a := by
    rw [← pw_lg b hb, ← pw_add, pw_lg b hb, show lg a + 255 - lg b + lg b = lg a + 255 by have := lg_lt b; omega, pw_period, pw_lg a ha]
  rw [← h, mul_assoc, mul_inv b hb, mul_one, h]
end Go.Proofs.Ytpghdiklleedaaa
