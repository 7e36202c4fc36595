set_option linter.all false
/- The field of 256 elements, plainly. -/
namespace Gf
abbrev B := BitVec 8

/-- multiply by x -/
def xt (a : B) : B := (a <<< 1) ^^^ (if a.getLsbD 7 then 0x1b#8 else 0#8)

def gm : Nat → B → B → B
  | 0, _, _ => 0#8
  | n + 1, x, b => (if b.getLsbD 0 then x else 0#8) ^^^ gm n (xt x) (b >>> 1)

def mul (a b : B) : B := gm 8 a b

theorem xor_ac4 (a b c d : B) : (a ^^^ b) ^^^ (c ^^^ d) = (a ^^^ c) ^^^ (b ^^^ d) := by
  ac_rfl

theorem if_xor (p q : Bool) (x : B) : (if (p ^^ q) = true then x else 0#8) = (if p = true then x else 0#8) ^^^ (if q = true then x else 0#8) := by
  cases p <;> cases q <;> simp

theorem if_xor' (p : Bool) (x y : B) : (if p = true then x ^^^ y else 0#8) = (if p = true then x else 0#8) ^^^ (if p = true then y else 0#8) := by
  cases p <;> simp

theorem xt_xor (a b : B) : xt (a ^^^ b) = xt a ^^^ xt b := by
  unfold xt
  rw [BitVec.getLsbD_xor, if_xor, BitVec.shiftLeft_xor_distrib, xor_ac4]

theorem gm_xor_left (n : Nat) : ∀ (x y b : B), gm n (x ^^^ y) b = gm n x b ^^^ gm n y b := by
  induction n with
  | zero => intro x y b; simp [gm]
  | succ n ih =>
    intro x y b
    simp only [gm, xt_xor, ih, if_xor']
    rw [xor_ac4]

theorem gm_xor_right (n : Nat) : ∀ (x a b : B), gm n x (a ^^^ b) = gm n x a ^^^ gm n x b := by
  induction n with
  | zero => intro x a b; simp [gm]
  | succ n ih =>
    intro x a b
    simp only [gm, BitVec.getLsbD_xor, if_xor, BitVec.ushiftRight_xor_distrib, ih]
    rw [xor_ac4]

theorem add_mul (a b c : B) : mul (a ^^^ b) c = mul a c ^^^ mul b c := gm_xor_left 8 a b c
theorem mul_add (a b c : B) : mul a (b ^^^ c) = mul a b ^^^ mul a c := gm_xor_right 8 a b c
theorem zero_mul (b : B) : mul 0#8 b = 0#8 := by
  have := add_mul 0#8 0#8 b
  simpa using this
theorem mul_zero (b : B) : mul b 0#8 = 0#8 := by
  have := mul_add b 0#8 0#8
  simpa using this

def pick (b : B) (i : Nat) : B := if b.getLsbD i then 1#8 <<< i else 0#8

theorem spread (b : B) : b = pick b 0 ^^^ (pick b 1 ^^^ (pick b 2 ^^^ (pick b 3 ^^^ (pick b 4 ^^^ (pick b 5 ^^^ (pick b 6 ^^^ pick b 7)))))) := by
  have h : ∀ n : Fin 256, (BitVec.ofFin n : B) = pick (BitVec.ofFin n) 0 ^^^ (pick (BitVec.ofFin n) 1 ^^^ (pick (BitVec.ofFin n) 2 ^^^ (pick (BitVec.ofFin n) 3 ^^^ (pick (BitVec.ofFin n) 4 ^^^ (pick (BitVec.ofFin n) 5 ^^^ (pick (BitVec.ofFin n) 6 ^^^ pick (BitVec.ofFin n) 7)))))) := by
    decide +kernel
  exact h b.toFin

theorem bit_ind (P : B → Prop) (h0 : P 0#8) (hb : ∀ i : Fin 8, P (1#8 <<< i.val)) (hx : ∀ x y, P x → P y → P (x ^^^ y)) (b : B) : P b := by
  have hp : ∀ i : Fin 8, P (pick b i.val) := by
    intro i
    unfold pick
    split
    · exact hb i
    · exact h0
  rw [spread b]
  exact hx _ _ (hp 0) (hx _ _ (hp 1) (hx _ _ (hp 2) (hx _ _ (hp 3) (hx _ _ (hp 4) (hx _ _ (hp 5) (hx _ _ (hp 6) (hp 7)))))))

theorem mul_comm (a b : B) : mul a b = mul b a := by
  refine bit_ind (fun a => ∀ b, mul a b = mul b a) ?_ ?_ ?_ a b
  · intro b; rw [zero_mul, mul_zero]
  · intro i b
    refine bit_ind (fun b => mul (1#8 <<< i.val) b = mul b (1#8 <<< i.val)) ?_ ?_ ?_ b
    · rw [zero_mul, mul_zero]
    · intro j
      have h : ∀ i j : Fin 8, mul (1#8 <<< i.val) (1#8 <<< j.val) = mul (1#8 <<< j.val) (1#8 <<< i.val) := by decide +kernel
      exact h i j
    · intro x y hx hy
      rw [mul_add, add_mul, hx, hy]
  · intro x y hx hy b
    rw [add_mul, mul_add, hx, hy]

theorem mul_assoc (a b c : B) : mul (mul a b) c = mul a (mul b c) := by
  refine bit_ind (fun a => ∀ b c, mul (mul a b) c = mul a (mul b c)) ?_ ?_ ?_ a b c
  · intro b c; simp only [zero_mul]
  · intro i b c
    refine bit_ind (fun b => ∀ c, mul (mul (1#8 <<< i.val) b) c = mul (1#8 <<< i.val) (mul b c)) ?_ ?_ ?_ b c
    · intro c; simp only [zero_mul, mul_zero]
    · intro j c
      refine bit_ind (fun c => mul (mul (1#8 <<< i.val) (1#8 <<< j.val)) c = mul (1#8 <<< i.val) (mul (1#8 <<< j.val) c)) ?_ ?_ ?_ c
      · simp only [mul_zero]
      · intro k
        have h : ∀ i j k : Fin 8, mul (mul (1#8 <<< i.val) (1#8 <<< j.val)) (1#8 <<< k.val) = mul (1#8 <<< i.val) (mul (1#8 <<< j.val) (1#8 <<< k.val)) := by decide +kernel
        exact h i j k
      · intro x y hx hy
        simp only [mul_add, hx, hy]
    · intro x y hx hy c
      simp only [mul_add, add_mul, hx, hy]
  · intro x y hx hy b c
    simp only [add_mul, hx, hy]

theorem mul_one (a : B) : mul a 1#8 = a := by
  have h : ∀ n : Fin 256, mul (BitVec.ofFin n : B) 1#8 = BitVec.ofFin n := by decide +kernel
  exact h a.toFin
theorem one_mul (a : B) : mul 1#8 a = a := by rw [mul_comm, mul_one]

/-- the powers of 3 -/
def pw : Nat → B
  | 0 => 1#8
  | n + 1 => mul 3#8 (pw n)

theorem pw_add (i j : Nat) : pw (i + j) = mul (pw i) (pw j) := by
  induction i with
  | zero => simp [pw, one_mul]
  | succ i ih => rw [show i + 1 + j = (i + j) + 1 by omega]; simp only [pw, ih, mul_assoc]

def inv (a : B) : B :=
  let a2 := mul a a; let a4 := mul a2 a2; let a8 := mul a4 a4; let a16 := mul a8 a8; let a32 := mul a16 a16; let a64 := mul a32 a32; let a128 := mul a64 a64
  mul a2 (mul a4 (mul a8 (mul a16 (mul a32 (mul a64 a128)))))

theorem mul_inv (a : B) (h : a ≠ 0#8) : mul a (inv a) = 1#8 := by
  have hh : ∀ n : Fin 256, (BitVec.ofFin n : B) ≠ 0#8 → mul (BitVec.ofFin n : B) (inv (BitVec.ofFin n)) = 1#8 := by decide +kernel
  exact hh a.toFin h

theorem inv_zero : inv 0#8 = 0#8 := by decide +kernel

theorem mul_eq_zero {a b : B} (h : mul a b = 0#8) : a = 0#8 ∨ b = 0#8 := by
  by_cases ha : a = 0#8
  · exact .inl ha
  · right
    have := congrArg (mul (inv a)) h
    rw [← mul_assoc, mul_comm (inv a) a, mul_inv a ha, one_mul, mul_zero] at this
    exact this

theorem mul_ne_zero {a b : B} (ha : a ≠ 0#8) (hb : b ≠ 0#8) : mul a b ≠ 0#8 := fun h => (mul_eq_zero h).elim ha hb

theorem inv_ne_zero {a : B} (h : a ≠ 0#8) : inv a ≠ 0#8 := by
  intro h0
  have := mul_inv a h
  rw [h0, mul_zero] at this
  exact absurd this (by decide)

theorem eq_inv {a b : B} (h : mul a b = 1#8) : b = inv a := by
  have ha : a ≠ 0#8 := by
    intro h0; rw [h0, zero_mul] at h; exact absurd h (by decide)
  have := congrArg (mul (inv a)) h
  rw [← mul_assoc, mul_comm (inv a) a, mul_inv a ha, one_mul, mul_one] at this
  exact this

theorem inv_inv {a : B} (h : a ≠ 0#8) : inv (inv a) = a := by
  have := mul_inv a h
  rw [mul_comm] at this
  exact (eq_inv this).symm

theorem inv_mul {a b : B} : inv (mul a b) = mul (inv a) (inv b) := by
  by_cases ha : a = 0#8
  · subst ha; simp only [zero_mul, inv_zero]
  by_cases hb : b = 0#8
  · subst hb; simp only [mul_zero, inv_zero]
  refine (eq_inv ?_).symm
  rw [mul_assoc, mul_comm (inv a), ← mul_assoc b, mul_inv b hb, one_mul, mul_inv a ha]

theorem mul_left_comm (a b c : B) : mul a (mul b c) = mul b (mul a c) := by
  rw [← mul_assoc, mul_comm a b, mul_assoc]

theorem xor_eq_zero {a b : B} (h : a ^^^ b = 0#8) : a = b := by
  have := congrArg (· ^^^ b) h
  simpa [BitVec.xor_assoc] using this

instance : Std.Associative mul := ⟨mul_assoc⟩
instance : Std.Commutative mul := ⟨mul_comm⟩
end Gf
