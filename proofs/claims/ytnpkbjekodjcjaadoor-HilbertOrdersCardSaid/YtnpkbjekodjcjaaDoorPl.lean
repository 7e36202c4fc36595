/- Plain laws of the Hilbert curve: index and point, squares, scale, long division, covers. -/
import Derived.Test.YtnpkbjekodjcjaaDoorRows
set_option linter.all false
namespace Go.Proofs.YtnpkbjekodjcjaaDoor.Hil

/-- the index by the definition -/
def idx : Nat → Nat → Nat → Nat
  | 0, _, _ => 0
  | k + 1, x, y =>
    if x < 2 ^ k then
      if y < 2 ^ k then idx k y x else 4 ^ k + idx k x (y - 2 ^ k)
    else if y < 2 ^ k then 3 * 4 ^ k + idx k (2 ^ k - 1 - y) (2 * 2 ^ k - 1 - x)
    else 2 * 4 ^ k + idx k (x - 2 ^ k) (y - 2 ^ k)

/-- how a quarter's point stands in the square -/
def put (s q : Nat) (p : Nat × Nat) : Nat × Nat :=
  if q = 0 then (p.2, p.1) else if q = 1 then (p.1, p.2 + s) else if q = 2 then (p.1 + s, p.2 + s) else (2 * s - 1 - p.2, s - 1 - p.1)

/-- the point by the definition -/
def pnt : Nat → Nat → Nat × Nat
  | 0, _ => (0, 0)
  | k + 1, i => put (2 ^ k) (i / 4 ^ k) (pnt k (i % 4 ^ k))

theorem two_pos (k : Nat) : 0 < 2 ^ k := Nat.pow_pos (by decide)
theorem four_pos (k : Nat) : 0 < 4 ^ k := Nat.pow_pos (by decide)
theorem four_sq (k : Nat) : 4 ^ k = 2 ^ k * 2 ^ k := by rw [show 4 = 2 * 2 from rfl, Nat.mul_pow]

theorem idx_lt : ∀ k x y, x < 2 ^ k → y < 2 ^ k → idx k x y < 4 ^ k
  | 0, x, y, _, _ => by simp [idx]
  | k + 1, x, y, hx, hy => by
    have e2 : 2 ^ (k + 1) = 2 * 2 ^ k := by rw [Nat.pow_succ, Nat.mul_comm]
    have e4 : 4 ^ (k + 1) = 4 * 4 ^ k := by rw [Nat.pow_succ, Nat.mul_comm]
    rw [e2] at hx hy
    rw [e4, idx]
    split
    · split
      · have := idx_lt k y x (by assumption) (by assumption); omega
      · have := idx_lt k x (y - 2 ^ k) (by assumption) (by omega); omega
    · split
      · have := idx_lt k (2 ^ k - 1 - y) (2 * 2 ^ k - 1 - x) (by omega) (by omega); omega
      · have := idx_lt k (x - 2 ^ k) (y - 2 ^ k) (by omega) (by omega); omega

theorem pnt_lt : ∀ k i, i < 4 ^ k → (pnt k i).1 < 2 ^ k ∧ (pnt k i).2 < 2 ^ k
  | 0, i, _ => by simp [pnt]
  | k + 1, i, hi => by
    have e2 : 2 ^ (k + 1) = 2 * 2 ^ k := by rw [Nat.pow_succ, Nat.mul_comm]
    have e4 : 4 ^ (k + 1) = 4 * 4 ^ k := by rw [Nat.pow_succ, Nat.mul_comm]
    rw [e2, pnt]
    have := pnt_lt k (i % 4 ^ k) (Nat.mod_lt _ (four_pos k))
    unfold put
    split
    · exact ⟨by simp; omega, by simp; omega⟩
    · split
      · exact ⟨by simp; omega, by simp; omega⟩
      · split
        · exact ⟨by simp; omega, by simp; omega⟩
        · exact ⟨by simp; omega, by simp; omega⟩

theorem pnt_idx : ∀ k x y, x < 2 ^ k → y < 2 ^ k → pnt k (idx k x y) = (x, y)
  | 0, x, y, hx, hy => by simp at hx hy; simp [pnt, hx, hy]
  | k + 1, x, y, hx, hy => by
    have e2 : 2 ^ (k + 1) = 2 * 2 ^ k := by rw [Nat.pow_succ, Nat.mul_comm]
    rw [e2] at hx hy
    have h4 := four_pos k
    have key : ∀ q n, n < 4 ^ k → (q * 4 ^ k + n) / 4 ^ k = q ∧ (q * 4 ^ k + n) % 4 ^ k = n := fun q n hn => by
      constructor
      · rw [Nat.mul_comm, Nat.mul_add_div h4, Nat.div_eq_of_lt hn, Nat.add_zero]
      · rw [Nat.mul_comm, Nat.mul_add_mod, Nat.mod_eq_of_lt hn]
    rw [idx, pnt]
    split
    · split
      · rename_i a b
        have l := idx_lt k y x b a
        rw [Nat.div_eq_of_lt l, Nat.mod_eq_of_lt l, pnt_idx k y x b a]
        simp [put]
      · rename_i a b
        have l := idx_lt k x (y - 2 ^ k) a (by omega)
        have e := key 1 _ l
        rw [Nat.one_mul] at e
        rw [e.1, e.2, pnt_idx k _ _ a (by omega)]
        simp [put]; omega
    · split
      · rename_i a b
        have l := idx_lt k (2 ^ k - 1 - y) (2 * 2 ^ k - 1 - x) (by omega) (by omega)
        have e := key 3 _ l
        rw [e.1, e.2, pnt_idx k _ _ (by omega) (by omega)]
        simp [put]; omega
      · rename_i a b
        have l := idx_lt k (x - 2 ^ k) (y - 2 ^ k) (by omega) (by omega)
        have e := key 2 _ l
        rw [e.1, e.2, pnt_idx k _ _ (by omega) (by omega)]
        simp [put]; omega

theorem idx_pnt : ∀ k i, i < 4 ^ k → idx k (pnt k i).1 (pnt k i).2 = i
  | 0, i, hi => by simp at hi; simp [idx, hi]
  | k + 1, i, hi => by
    have h4 := four_pos k
    have e4 : 4 ^ (k + 1) = 4 ^ k * 4 := by rw [Nat.pow_succ]
    rw [e4] at hi
    have hm : i % 4 ^ k < 4 ^ k := Nat.mod_lt _ h4
    have hl := pnt_lt k _ hm
    have ih := idx_pnt k _ hm
    have hq : i / 4 ^ k < 4 := Nat.div_lt_of_lt_mul hi
    have hd := Nat.div_add_mod i (4 ^ k)
    rw [pnt]
    generalize hP : pnt k (i % 4 ^ k) = P at *
    generalize i / 4 ^ k = q at *
    obtain ⟨u, v⟩ := P
    simp only at hl ih
    have : q = 0 ∨ q = 1 ∨ q = 2 ∨ q = 3 := by omega
    rw [idx]
    rcases this with rfl | rfl | rfl | rfl
    · simp [put, hl.1, hl.2]; omega
    · have a : ¬ (v + 2 ^ k < 2 ^ k) := by omega
      simp [put, hl.1, a]; omega
    · have a : ¬ (v + 2 ^ k < 2 ^ k) := by omega
      have b : ¬ (u + 2 ^ k < 2 ^ k) := by omega
      simp [put, a, b]; omega
    · have a : 2 ^ k - 1 - u < 2 ^ k := by omega
      have b : ¬ (2 * 2 ^ k - 1 - v < 2 ^ k) := by omega
      have c : 2 ^ k - 1 - (2 ^ k - 1 - u) = u := by omega
      have d : 2 * 2 ^ k - 1 - (2 * 2 ^ k - 1 - v) = v := by omega
      simp [put, a, b, c, d]; omega

theorem idx_inj (k x y u v : Nat) (hx : x < 2 ^ k) (hy : y < 2 ^ k) (hu : u < 2 ^ k) (hv : v < 2 ^ k) (h : idx k x y = idx k u v) : x = u ∧ y = v := by
  have := pnt_idx k x y hx hy
  rw [h, pnt_idx k u v hu hv] at this
  injection this with a b
  exact ⟨a.symm, b.symm⟩

theorem pnt_first : ∀ k, pnt k 0 = (0, 0)
  | 0 => rfl
  | k + 1 => by simp [pnt, pnt_first k, put]

theorem pnt_last : ∀ k, pnt k (4 ^ k - 1) = (2 ^ k - 1, 0)
  | 0 => rfl
  | k + 1 => by
    have h4 := four_pos k
    have h2 := two_pos k
    have e4 : 4 ^ (k + 1) = 4 ^ k * 4 := by rw [Nat.pow_succ]
    have e2 : 2 ^ (k + 1) = 2 ^ k * 2 := by rw [Nat.pow_succ]
    have e : 4 ^ (k + 1) - 1 = 4 ^ k * 3 + (4 ^ k - 1) := by omega
    rw [pnt, e, Nat.mul_add_div h4, Nat.mul_add_mod, Nat.div_eq_of_lt (by omega), Nat.mod_eq_of_lt (by omega), pnt_last k]
    simp [put]; omega

def near (p q : Nat × Nat) : Prop := (p.1 = q.1 ∧ (p.2 + 1 = q.2 ∨ q.2 + 1 = p.2)) ∨ (p.2 = q.2 ∧ (p.1 + 1 = q.1 ∨ q.1 + 1 = p.1))

theorem put_near (s q : Nat) (p r : Nat × Nat) (h : near p r) (hp : p.1 < s ∧ p.2 < s) (hr : r.1 < s ∧ r.2 < s) : near (put s q p) (put s q r) := by
  unfold near put at *
  split
  · simp only; omega
  · split
    · simp only; omega
    · split
      · simp only; omega
      · simp only; omega

theorem pnt_next : ∀ k i, i + 1 < 4 ^ k → near (pnt k i) (pnt k (i + 1))
  | 0, i, h => by simp at h
  | k + 1, i, h => by
    have h4 := four_pos k
    have h2 := two_pos k
    have e4 : 4 ^ (k + 1) = 4 ^ k * 4 := by rw [Nat.pow_succ]
    rw [e4] at h
    have hm : i % 4 ^ k < 4 ^ k := Nat.mod_lt _ h4
    have hd := Nat.div_add_mod i (4 ^ k)
    rw [pnt, pnt]
    generalize hq : i / 4 ^ k = q at *
    generalize hr : i % 4 ^ k = r at *
    by_cases hn : r + 1 < 4 ^ k
    · have ed : (i + 1) / 4 ^ k = q := by rw [← hd, Nat.add_assoc, Nat.mul_add_div h4, Nat.div_eq_of_lt hn, Nat.add_zero]
      have em : (i + 1) % 4 ^ k = r + 1 := by rw [← hd, Nat.add_assoc, Nat.mul_add_mod, Nat.mod_eq_of_lt hn]
      rw [ed, em]
      exact put_near _ _ _ _ (pnt_next k r hn) (pnt_lt k r hm) (pnt_lt k _ hn)
    · have er : r = 4 ^ k - 1 := by omega
      have e1 : i + 1 = 4 ^ k * (q + 1) + 0 := by rw [Nat.mul_add]; omega
      have ed : (i + 1) / 4 ^ k = q + 1 := by rw [e1, Nat.mul_add_div h4]; simp
      have em : (i + 1) % 4 ^ k = 0 := by rw [e1, Nat.mul_add_mod]; simp
      rw [ed, em, er, pnt_last, pnt_first]
      have hq3 : q + 1 < 4 := by
        rw [← ed]; exact Nat.div_lt_of_lt_mul h
      have : q = 0 ∨ q = 1 ∨ q = 2 := by omega
      rcases this with rfl | rfl | rfl <;> simp [put, near] <;> omega

theorem pow_split (a b c : Nat) (h : b ≤ c) : a ^ c = a ^ b * a ^ (c - b) := by rw [← Nat.pow_add]; congr 1; omega

theorem lt_div (k m x : Nat) (h : m ≤ k) : x / 2 ^ m < 2 ^ (k - m) ↔ x < 2 ^ k := by
  rw [Nat.div_lt_iff_lt_mul (two_pos m), pow_split 2 m k h, Nat.mul_comm]

theorem idx_div : ∀ k m x y, m ≤ k → x < 2 ^ k → y < 2 ^ k → idx k x y / 4 ^ m = idx (k - m) (x / 2 ^ m) (y / 2 ^ m)
  | 0, m, x, y, hm, _, _ => by
    obtain rfl : m = 0 := by omega
    simp [idx]
  | k + 1, m, x, y, hm, hx, hy => by
    by_cases hk : m = k + 1
    · subst hk
      rw [Nat.div_eq_of_lt (idx_lt _ _ _ hx hy)]
      simp [idx]
    · have hmk : m ≤ k := by omega
      have e2 : 2 ^ (k + 1) = 2 * 2 ^ k := by rw [Nat.pow_succ, Nat.mul_comm]
      rw [e2] at hx hy
      have p2 := pow_split 2 m k hmk
      have p4 := pow_split 4 m k hmk
      have t2 := two_pos m
      have t4 := four_pos m
      have es : k + 1 - m = (k - m) + 1 := by omega
      rw [es, idx, idx]
      have c1 := lt_div k m x hmk
      have c2 := lt_div k m y hmk
      have sub : ∀ z, (z - 2 ^ k) / 2 ^ m = z / 2 ^ m - 2 ^ (k - m) := fun z => by rw [p2, Nat.sub_mul_div]
      have add : ∀ q n, (q * 4 ^ k + n) / 4 ^ m = q * 4 ^ (k - m) + n / 4 ^ m := fun q n => by
        rw [p4, show q * (4 ^ m * 4 ^ (k - m)) = 4 ^ m * (q * 4 ^ (k - m)) by rw [Nat.mul_left_comm], Nat.mul_add_div t4]
      have rev : ∀ c z, z < c * 2 ^ k → (c * 2 ^ k - 1 - z) / 2 ^ m = c * 2 ^ (k - m) - 1 - z / 2 ^ m := fun c z hz => by
        have hz' : z < 2 ^ m * (c * 2 ^ (k - m)) := by rw [p2] at hz; rw [Nat.mul_left_comm]; exact hz
        have := Nat.mul_sub_div z (2 ^ m) (c * 2 ^ (k - m)) hz'
        rw [show c * 2 ^ k - 1 - z = 2 ^ m * (c * 2 ^ (k - m)) - (z + 1) by rw [p2, show c * (2 ^ m * 2 ^ (k - m)) = 2 ^ m * (c * 2 ^ (k - m)) by rw [Nat.mul_left_comm]]; omega, this]
        omega
      by_cases a : x < 2 ^ k
      · rw [if_pos a, if_pos (c1.2 a)]
        by_cases b : y < 2 ^ k
        · rw [if_pos b, if_pos (c2.2 b), idx_div k m y x hmk b a]
        · rw [if_neg b, if_neg (fun h => b (c2.1 h))]
          have := add 1 (idx k x (y - 2 ^ k))
          rw [Nat.one_mul, Nat.one_mul] at this
          rw [this, idx_div k m _ _ hmk a (by omega), sub]
      · rw [if_neg a, if_neg (fun h => a (c1.1 h))]
        by_cases b : y < 2 ^ k
        · rw [if_pos b, if_pos (c2.2 b), add, idx_div k m _ _ hmk (by omega) (by omega)]
          have r1 := rev 1 y (by omega)
          rw [Nat.one_mul, Nat.one_mul] at r1
          rw [r1, rev 2 x hx]
        · rw [if_neg b, if_neg (fun h => b (c2.1 h)), add, idx_div k m _ _ hmk (by omega) (by omega), sub, sub]

theorem squares (k m x y u v : Nat) (h : m ≤ k) (hx : x < 2 ^ k) (hy : y < 2 ^ k) (hu : u < 2 ^ k) (hv : v < 2 ^ k) :
    (x / 2 ^ m = u / 2 ^ m ∧ y / 2 ^ m = v / 2 ^ m) ↔ idx k x y / 4 ^ m = idx k u v / 4 ^ m := by
  rw [idx_div k m x y h hx hy, idx_div k m u v h hu hv]
  constructor
  · rintro ⟨a, b⟩; rw [a, b]
  · exact idx_inj _ _ _ _ _ ((lt_div k m x h).2 hx) ((lt_div k m y h).2 hy) ((lt_div k m u h).2 hu) ((lt_div k m v h).2 hv)
end Go.Proofs.YtnpkbjekodjcjaaDoor.Hil
namespace Go.Proofs.YtnpkbjekodjcjaaDoor.Hil

theorem two_mul_pow (k : Nat) : 2 ^ (k + 1) = 2 * 2 ^ k := by rw [Nat.pow_succ, Nat.mul_comm]

/-- one round of the bitwise scale: the quotient and the rest of d * 2^k by n -/
theorem scale_step (d n k : Nat) (hn : 0 < n) :
    (n ≤ 2 * (d * 2 ^ k % n) → d * 2 ^ (k + 1) / n = 2 * (d * 2 ^ k / n) + 1 ∧ d * 2 ^ (k + 1) % n = 2 * (d * 2 ^ k % n) - n) ∧
    (¬ n ≤ 2 * (d * 2 ^ k % n) → d * 2 ^ (k + 1) / n = 2 * (d * 2 ^ k / n) ∧ d * 2 ^ (k + 1) % n = 2 * (d * 2 ^ k % n)) := by
  have hd := Nat.div_add_mod (d * 2 ^ k) n
  have hl := Nat.mod_lt (d * 2 ^ k) hn
  have e : d * 2 ^ (k + 1) = 2 * (d * 2 ^ k) := by rw [two_mul_pow, Nat.mul_left_comm]
  rw [e]
  generalize d * 2 ^ k = z at *
  generalize hq : z / n = q at *
  generalize hr : z % n = r at *
  have key : ∀ a b, 2 * z = n * a + b → b < n → 2 * z / n = a ∧ 2 * z % n = b := fun a b h hb => by
    rw [h]
    exact ⟨by rw [Nat.mul_add_div hn, Nat.div_eq_of_lt hb, Nat.add_zero], by rw [Nat.mul_add_mod, Nat.mod_eq_of_lt hb]⟩
  have e2 : n * (2 * q) = 2 * (n * q) := by rw [Nat.mul_left_comm]
  refine ⟨fun h => key _ _ ?_ (by omega), fun h => key _ _ ?_ (by omega)⟩
  · rw [Nat.mul_add, e2]; omega
  · rw [e2]; omega

/-- the scale -/
def scl (v lo hi : Int) (k : Nat) : Nat :=
  if hi < lo ∨ v < lo then 0 else if hi < v then 2 ^ k - 1 else (v - lo).toNat * 2 ^ k / ((hi - lo).toNat + 1)

theorem scl_lt (v lo hi : Int) (k : Nat) : scl v lo hi k < 2 ^ k := by
  have h2 : 0 < 2 ^ k := Nat.pow_pos (by decide)
  unfold scl
  split
  · exact h2
  · split
    · omega
    · rename_i a b
      rw [Nat.div_lt_iff_lt_mul (by omega)]
      have : (v - lo).toNat < (hi - lo).toNat + 1 := by omega
      rw [Nat.mul_comm (2 ^ k)]
      exact Nat.mul_lt_mul_of_pos_right this h2

theorem scl_mono (v w lo hi : Int) (k : Nat) (h : v ≤ w) : scl v lo hi k ≤ scl w lo hi k := by
  have l := scl_lt v lo hi k
  unfold scl
  split
  · omega
  · rename_i a
    have b : ¬ (hi < lo ∨ w < lo) := by omega
    rw [if_neg b]
    split
    · have c : hi < w := by omega
      rw [if_pos c]; omega
    · split
      · unfold scl at l
        rw [if_neg a, if_neg (by assumption)] at l
        omega
      · exact Nat.div_le_div_right (Nat.mul_le_mul_right _ (by omega))

theorem scl_lo (lo hi : Int) (k : Nat) (h : lo ≤ hi) : scl lo lo hi k = 0 := by
  unfold scl
  rw [if_neg (by omega), if_neg (by omega)]
  simp

theorem scl_hi (lo hi : Int) (k : Nat) (h : lo ≤ hi) (hn : 2 ^ k ≤ (hi - lo).toNat) : scl hi lo hi k = 2 ^ k - 1 := by
  have h2 : 0 < 2 ^ k := Nat.pow_pos (by decide)
  unfold scl
  rw [if_neg (by omega), if_neg (by omega)]
  generalize (hi - lo).toNat = n at *
  generalize hs : 2 ^ k = s at *
  have e : n * s = (n + 1) * (s - 1) + (n + 1 - s) := by
    obtain ⟨t, rfl⟩ : ∃ t, s = t + 1 := ⟨s - 1, by omega⟩
    simp only [Nat.add_sub_cancel]
    rw [Nat.mul_add, Nat.add_mul]
    omega
  rw [e, Nat.mul_add_div (by omega), Nat.div_eq_of_lt (by omega), Nat.add_zero]

/-- a guess at a digit of the quotient: where the loop stops, the guess is the digit -/
theorem digit_stop (u1 u0 y1 y0 q r B : Nat) (hu : u1 = q * y1 + r) (hu0 : u0 < B) (hle : (u1 * B + u0) / (y1 * B + y0) ≤ q) (hy : 0 < y1 * B + y0)
    (hc : q * y0 ≤ B * r + u0) : q = (u1 * B + u0) / (y1 * B + y0) := by
  apply Nat.le_antisymm _ hle
  rw [Nat.le_div_iff_mul_le hy]
  subst hu
  have e1 : q * (y1 * B + y0) = q * y1 * B + q * y0 := by rw [Nat.mul_add, Nat.mul_assoc]
  have e2 : (q * y1 + r) * B = q * y1 * B + B * r := by rw [Nat.add_mul, Nat.mul_comm r B]
  rw [e1, e2]
  omega

/-- .. and where it goes on, the guess is too large -/
theorem digit_go (u1 u0 y1 y0 q r B : Nat) (hu : u1 = q * y1 + r) (hu0 : u0 < B) (hle : (u1 * B + u0) / (y1 * B + y0) ≤ q) (hy : 0 < y1 * B + y0) (hB : u1 < y1 * B + y0) (hB0 : 0 < B)
    (hc : B ≤ q ∨ B * r + u0 < q * y0) : (u1 * B + u0) / (y1 * B + y0) ≤ q - 1 ∧ 0 < q := by
  have lt : (u1 * B + u0) / (y1 * B + y0) < B := by
    rw [Nat.div_lt_iff_lt_mul hy]
    have h1 : (u1 + 1) * B ≤ (y1 * B + y0) * B := Nat.mul_le_mul_right _ hB
    rw [Nat.add_mul] at h1
    rw [Nat.mul_comm B]
    omega
  have : (u1 * B + u0) / (y1 * B + y0) < q := by
    rcases hc with hc | hc
    · omega
    · rw [Nat.div_lt_iff_lt_mul hy]
      subst hu
      have e1 : q * (y1 * B + y0) = q * y1 * B + q * y0 := by rw [Nat.mul_add, Nat.mul_assoc]
      have e2 : (q * y1 + r) * B = q * y1 * B + B * r := by rw [Nat.add_mul, Nat.mul_comm r B]
      rw [e1, e2]
      omega
  generalize (u1 * B + u0) / (y1 * B + y0) = t at *
  omega

/-- where the rest has grown beyond a digit, the loop may stop -/
theorem digit_out (u1 u0 y1 y0 q r B : Nat) (hu : u1 = q * y1 + r) (hu0 : u0 < B) (hle : (u1 * B + u0) / (y1 * B + y0) ≤ q) (hy1 : 0 < y1) (hy0 : y0 < B) (hB : u1 < y1 * B + y0)
    (hr : B ≤ r) : q = (u1 * B + u0) / (y1 * B + y0) := by
  have hB0 : 0 < B := by omega
  have hy : 0 < y1 * B + y0 := by have := Nat.mul_pos hy1 hB0; omega
  refine digit_stop u1 u0 y1 y0 q r B hu hu0 hle hy ?_
  have hq : q < B := by
    rw [Nat.lt_iff_le_pred hB0] 
    rcases Nat.lt_or_ge q B with h | h
    · omega
    · exfalso
      have := Nat.mul_le_mul_right y1 h
      rw [Nat.mul_comm B y1] at this
      omega
  have h1 : q * y0 ≤ B * B := Nat.mul_le_mul (by omega) (by omega)
  have h2 : B * B ≤ B * r := Nat.mul_le_mul_left _ hr
  omega

theorem guess_ge (u1 u0 y1 y0 B : Nat) (hu0 : u0 < B) (hy1 : 0 < y1) : (u1 * B + u0) / (y1 * B + y0) ≤ u1 / y1 := by
  have hB0 : 0 < B := by omega
  calc (u1 * B + u0) / (y1 * B + y0) ≤ (u1 * B + u0) / (y1 * B) := Nat.div_le_div_left (by omega) (Nat.mul_pos hy1 hB0)
    _ = (u1 * B + u0) / B / y1 := by rw [Nat.div_div_eq_div_mul, Nat.mul_comm B y1]
    _ = u1 / y1 := by rw [Nat.mul_comm u1 B, Nat.mul_add_div hB0, Nat.div_eq_of_lt hu0, Nat.add_zero]

/-- two digits -/
theorem two_digits (u1 a b y B : Nat) (hy : 0 < y) (ha : a < B) (hb : b < B) :
    (u1 * (B * B) + (a * B + b)) / y = (u1 * B + a) / y * B + ((u1 * B + a) % y * B + b) / y := by
  have hd := Nat.div_add_mod (u1 * B + a) y
  generalize hq : (u1 * B + a) / y = q at *
  generalize hr : (u1 * B + a) % y = r at *
  have e : u1 * (B * B) + (a * B + b) = y * (q * B) + (r * B + b) := by
    have : (u1 * B + a) * B = (y * q + r) * B := by rw [hd]
    rw [Nat.add_mul, Nat.add_mul, Nat.mul_assoc, Nat.mul_assoc] at this
    omega
  rw [e, Nat.mul_add_div hy]
end Go.Proofs.YtnpkbjekodjcjaaDoor.Hil

namespace Go.Proofs.YtnpkbjekodjcjaaDoor.Hil

abbrev Rgs := List (Nat × Nat)

def lastR (out : Rgs) : Nat × Nat := out.getD (out.length - 1) (0, 0)

def add (a b : Nat) (out : Rgs) : Rgs :=
  if 0 < out.length ∧ (lastR out).2 + 1 = a then out.set (out.length - 1) ((lastR out).1, b) else out ++ [(a, b)]

def scan (ins : Nat → Bool) : Nat → Nat → Rgs → Rgs
  | 0, _, out => out
  | n + 1, s, out => scan ins n (s + 1) (if ins s then add s s out else out)

theorem scan_none (ins : Nat → Bool) : ∀ n s out, (∀ i, s ≤ i → i < s + n → ins i = false) → scan ins n s out = out
  | 0, _, _, _ => rfl
  | n + 1, s, out, h => by
    rw [scan, h s (by omega) (by omega)]
    exact scan_none ins n (s + 1) out fun i a b => h i (by omega) (by omega)

theorem scan_more (ins : Nat → Bool) : ∀ m n s out, scan ins (m + n) s out = scan ins n (s + m) (scan ins m s out)
  | 0, n, s, out => by simp [scan]
  | m + 1, n, s, out => by
    rw [show m + 1 + n = (m + n) + 1 by omega, scan, scan, scan_more ins m n (s + 1), show s + 1 + m = s + (m + 1) by omega]

theorem lastR_add (a b : Nat) (out : Rgs) : (lastR (add a b out)).2 = b ∧ 0 < (add a b out).length := by
  unfold add
  split
  · rename_i h
    refine ⟨?_, by simp; exact h.1⟩
    unfold lastR
    rw [List.length_set, List.getD, List.getElem?_set_self (by omega)]
    rfl
  · refine ⟨?_, by simp⟩
    unfold lastR
    simp [List.getD]

theorem add_add (a b c : Nat) (out : Rgs) : add (b + 1) c (add a b out) = add a c out := by
  have h := lastR_add a b out
  rw [add, if_pos ⟨h.2, by rw [h.1]⟩]
  unfold add
  split
  · rename_i g
    simp only [List.length_set, List.set_set]
    congr 2
    unfold lastR
    rw [List.length_set, List.getD, List.getElem?_set_self (by omega)]
    rfl
  · simp [lastR, List.getD]

theorem scan_all (ins : Nat → Bool) : ∀ n s out, (∀ i, s ≤ i → i < s + (n + 1) → ins i = true) → scan ins (n + 1) s out = add s (s + n) out
  | 0, s, out, h => by rw [scan, h s (by omega) (by omega)]; simp [scan]
  | n + 1, s, out, h => by
    rw [scan, h s (by omega) (by omega), if_pos rfl, scan_all ins n (s + 1) _ fun i a b => h i (by omega) (by omega), add_add]
    congr 1
    omega

structure Rect where
  x0 : Nat
  y0 : Nat
  x1 : Nat
  y1 : Nat

def Rect.has (w : Rect) (p : Nat × Nat) : Bool := decide (p.1 ≥ w.x0 ∧ p.1 ≤ w.x1 ∧ p.2 ≥ w.y0 ∧ p.2 ≤ w.y1)

def down (k z : Nat) : Nat := z / 2 ^ k * 2 ^ k

def visit (w : Rect) (o : Nat) : Nat → Nat → Rgs → Rgs
  | k, first, out =>
    let x := down k (pnt o first).1
    let y := down k (pnt o first).2
    if x > w.x1 ∨ y > w.y1 ∨ x + 2 ^ k - 1 < w.x0 ∨ y + 2 ^ k - 1 < w.y0 then out
    else if x < w.x0 ∨ y < w.y0 ∨ x + 2 ^ k - 1 > w.x1 ∨ y + 2 ^ k - 1 > w.y1 then
      match k with
      | 0 => out
      | k + 1 => visit w o k (first + 3 * 4 ^ k) (visit w o k (first + 2 * 4 ^ k) (visit w o k (first + 1 * 4 ^ k) (visit w o k (first + 0 * 4 ^ k) out)))
    else add first (first + 4 ^ k - 1) out

theorem same_square (o k c i : Nat) (hk : k ≤ o) (hc : (c + 1) * 4 ^ k ≤ 4 ^ o) (h1 : c * 4 ^ k ≤ i) (h2 : i < (c + 1) * 4 ^ k) :
    down k (pnt o (c * 4 ^ k)).1 = down k (pnt o i).1 ∧ down k (pnt o (c * 4 ^ k)).2 = down k (pnt o i).2 := by
  have t := four_pos k
  have hc' : c * 4 ^ k < 4 ^ o := by rw [Nat.add_mul] at hc; omega
  have hi : i < 4 ^ o := by omega
  have l1 := pnt_lt o _ hc'
  have l2 := pnt_lt o _ hi
  have sq := (squares o k _ _ _ _ hk l1.1 l1.2 l2.1 l2.2).2
  rw [idx_pnt o _ hc', idx_pnt o _ hi] at sq
  have e1 : c * 4 ^ k / 4 ^ k = c := Nat.mul_div_cancel _ t
  have e2 : i / 4 ^ k = c := by
    apply Nat.le_antisymm
    · have := (Nat.div_lt_iff_lt_mul t).2 h2; omega
    · exact (Nat.le_div_iff_mul_le t).2 h1
  have := sq (by rw [e1, e2])
  unfold down
  rw [this.1, this.2]
  exact ⟨rfl, rfl⟩

theorem down_le (k z : Nat) : down k z ≤ z ∧ z < down k z + 2 ^ k := by
  have := Nat.div_add_mod z (2 ^ k)
  have := Nat.mod_lt z (two_pos k)
  unfold down
  rw [Nat.mul_comm]
  omega

theorem visit_scan (w : Rect) (o : Nat) : ∀ k c out, k ≤ o → (c + 1) * 4 ^ k ≤ 4 ^ o →
    visit w o k (c * 4 ^ k) out = scan (fun i => w.has (pnt o i)) (4 ^ k) (c * 4 ^ k) out := by
  intro k
  induction k with
  | zero =>
    intro c out hk hc
    rw [visit]
    have dl : ∀ z, down 0 z = z := fun z => by simp [down]
    simp only [dl, Nat.pow_zero, Nat.mul_one, Nat.add_sub_cancel]
    rw [scan, scan]
    unfold Rect.has
    split
    · rw [decide_eq_false (by omega)]; rfl
    · split
      · rename_i a b; exfalso; omega
      · rw [decide_eq_true (by omega)]; rfl
  | succ k ih =>
    intro c out hk hc
    have t := four_pos k
    have t' := four_pos (k + 1)
    have e4 : 4 ^ (k + 1) = 4 ^ k * 4 := by rw [Nat.pow_succ]
    have sq : ∀ i, c * 4 ^ (k + 1) ≤ i → i < c * 4 ^ (k + 1) + 4 ^ (k + 1) → _ := fun i a b => same_square o (k + 1) c i hk hc a (by rw [Nat.add_mul]; omega)
    have t2 := two_pos (k + 1)
    rw [visit]
    generalize hx : down (k + 1) (pnt o (c * 4 ^ (k + 1))).1 = x at *
    generalize hy : down (k + 1) (pnt o (c * 4 ^ (k + 1))).2 = y at *
    split
    · rename_i a
      rw [scan_none]
      intro i b d
      have e := sq i b d
      have u := down_le (k + 1) (pnt o i).1
      have v := down_le (k + 1) (pnt o i).2
      rw [← e.1] at u
      rw [← e.2] at v
      unfold Rect.has
      rw [decide_eq_false]
      omega
    · rename_i a
      split
      · have f : ∀ j, j < 4 → ∀ out, visit w o k (c * 4 ^ (k + 1) + j * 4 ^ k) out = scan (fun i => w.has (pnt o i)) (4 ^ k) (c * 4 ^ (k + 1) + j * 4 ^ k) out := fun j hj out => by
          have e : c * 4 ^ (k + 1) + j * 4 ^ k = (c * 4 + j) * 4 ^ k := by rw [Nat.add_mul, Nat.mul_assoc, e4, Nat.mul_comm (4 ^ k)]
          rw [e]
          refine ih (c * 4 + j) out (by omega) ?_
          refine Nat.le_trans ?_ hc
          rw [e4, Nat.mul_comm (4 ^ k), ← Nat.mul_assoc]
          exact Nat.mul_le_mul_right _ (by omega)
        rw [f 0 (by omega), f 1 (by omega), f 2 (by omega), f 3 (by omega)]
        rw [show 4 ^ (k + 1) = 4 ^ k + (4 ^ k + (4 ^ k + 4 ^ k)) by omega, scan_more, scan_more, scan_more]
        simp only [Nat.zero_mul, Nat.add_zero, Nat.one_mul]
        congr 1
        · omega
        · congr 1
          · omega
      · rename_i b
        obtain ⟨m, hm⟩ : ∃ m, 4 ^ (k + 1) = m + 1 := ⟨4 ^ (k + 1) - 1, by omega⟩
        have al : ∀ i, c * 4 ^ (k + 1) ≤ i → i < c * 4 ^ (k + 1) + 4 ^ (k + 1) → w.has (pnt o i) = true := fun i b' d => by
          have e := sq i b' d
          have u := down_le (k + 1) (pnt o i).1
          have v := down_le (k + 1) (pnt o i).2
          rw [← e.1] at u
          rw [← e.2] at v
          unfold Rect.has
          rw [decide_eq_true]
          omega
        rw [hm] at al ⊢
        rw [scan_all _ _ _ _ al]
        congr 1

/-- the ranges of a scan: ordered, with gaps, holding just what is inside -/
def Good (ins : Nat → Bool) (s : Nat) (out : Rgs) : Prop :=
  (∀ j, j < out.length → (out.getD j (0, 0)).1 ≤ (out.getD j (0, 0)).2 ∧ (out.getD j (0, 0)).2 < s) ∧
  (∀ j, j + 1 < out.length → (out.getD j (0, 0)).2 + 1 < (out.getD (j + 1) (0, 0)).1) ∧
  (∀ i, i < s → (ins i = true ↔ ∃ j, j < out.length ∧ (out.getD j (0, 0)).1 ≤ i ∧ i ≤ (out.getD j (0, 0)).2))

theorem good_step (ins : Nat → Bool) (s : Nat) (out : Rgs) (h : Good ins s out) : Good ins (s + 1) (if ins s then add s s out else out) := by
  obtain ⟨h1, h2, h3⟩ := h
  by_cases hi : ins s = true
  · rw [if_pos hi]
    unfold add
    split
    · rename_i hl
      have g : ∀ j, (out.set (out.length - 1) ((lastR out).1, s)).getD j (0, 0) = if j = out.length - 1 then ((lastR out).1, s) else out.getD j (0, 0) := fun j => by
        rw [List.getD, List.getElem?_set]
        by_cases e : out.length - 1 = j
        · rw [if_pos e, if_pos e.symm, if_pos (by omega)]; rfl
        · rw [if_neg e, if_neg (fun h => e h.symm)]; rfl
      have el : out.getD (out.length - 1) (0, 0) = lastR out := rfl
      have hb := h1 (out.length - 1) (by omega)
      rw [el] at hb
      refine ⟨?_, ?_, ?_⟩
      · intro j hj
        rw [List.length_set] at hj
        rw [g]
        split
        · simp only; omega
        · have := h1 j hj; omega
      · intro j hj
        rw [List.length_set] at hj
        rw [g, g, if_neg (by omega)]
        have := h2 j hj
        split
        · rename_i e
          rw [e, el] at this
          exact this
        · exact this
      · intro i hi'
        rw [List.length_set]
        by_cases e : i = s
        · subst e
          refine ⟨fun _ => ⟨out.length - 1, by omega, ?_⟩, fun _ => hi⟩
          rw [g, if_pos rfl]; simp only; omega
        · rw [h3 i (by omega)]
          constructor
          · rintro ⟨j, hj, a, b⟩
            refine ⟨j, hj, ?_⟩
            rw [g]
            split
            · rename_i e'
              rw [e', el] at a b
              simp only; omega
            · exact ⟨a, b⟩
          · rintro ⟨j, hj, a, b⟩
            rw [g] at a b
            refine ⟨j, hj, ?_⟩
            split at a
            · rename_i e'
              rw [if_pos e'] at b
              rw [e', el]
              simp only at a b
              omega
            · rename_i e'
              rw [if_neg e'] at b
              exact ⟨a, b⟩
    · rename_i hl
      have g : ∀ j, j < out.length → (out ++ [(s, s)]).getD j (0, 0) = out.getD j (0, 0) := fun j hj => by
        rw [List.getD, List.getElem?_append_left hj]; rfl
      have g' : (out ++ [(s, s)]).getD out.length (0, 0) = (s, s) := by simp [List.getD]
      refine ⟨?_, ?_, ?_⟩
      · intro j hj
        rw [List.length_append, List.length_singleton] at hj
        by_cases e : j = out.length
        · subst e; rw [g']; simp only; omega
        · rw [g j (by omega)]; have := h1 j (by omega); omega
      · intro j hj
        rw [List.length_append, List.length_singleton] at hj
        rw [g j (by omega)]
        by_cases e : j + 1 = out.length
        · rw [e, g']
          have := h1 j (by omega)
          have el : lastR out = out.getD j (0, 0) := by unfold lastR; rw [show out.length - 1 = j by omega]
          rw [el] at hl
          simp only
          omega
        · rw [g _ (by omega)]; exact h2 j (by omega)
      · intro i hi'
        rw [List.length_append, List.length_singleton]
        by_cases e : i = s
        · subst e
          refine ⟨fun _ => ⟨out.length, by omega, ?_⟩, fun _ => hi⟩
          rw [g']; simp
        · rw [h3 i (by omega)]
          constructor
          · rintro ⟨j, hj, a⟩
            exact ⟨j, by omega, by rw [g j hj]; exact a⟩
          · rintro ⟨j, hj, a, b⟩
            by_cases e' : j = out.length
            · rw [e', g'] at a b
              simp only at a b
              omega
            · refine ⟨j, by omega, ?_⟩
              rw [g j (by omega)] at a b
              exact ⟨a, b⟩
  · rw [if_neg hi]
    refine ⟨fun j hj => by have := h1 j hj; omega, h2, fun i hi' => ?_⟩
    by_cases e : i = s
    · subst e
      refine ⟨fun h => absurd h hi, ?_⟩
      rintro ⟨j, hj, a, b⟩
      have := h1 j hj
      omega
    · exact h3 i (by omega)

theorem good_scan (ins : Nat → Bool) : ∀ n s out, Good ins s out → Good ins (s + n) (scan ins n s out)
  | 0, s, out, h => h
  | n + 1, s, out, h => by
    rw [scan, show s + (n + 1) = s + 1 + n by omega]
    exact good_scan ins n (s + 1) _ (good_step ins s out h)

theorem good_nil (ins : Nat → Bool) : Good ins 0 [] := ⟨by simp, by simp, by simp⟩

/-- how many of the first m ranges hold n -/
def found (out : Rgs) (n : Nat) : Nat → Nat
  | 0 => 0
  | m + 1 => found out n m + if (out.getD m (0, 0)).1 ≤ n ∧ n ≤ (out.getD m (0, 0)).2 then 1 else 0

theorem good_mono {ins : Nat → Bool} {s : Nat} {out : Rgs} (h : Good ins s out) (i : Nat) : ∀ d, i + (d + 1) < out.length → (out.getD i (0, 0)).2 + 1 < (out.getD (i + (d + 1)) (0, 0)).1
  | 0, hd => h.2.1 i (by omega)
  | d + 1, hd => by
    have a := good_mono h i d (by omega)
    have b := h.2.1 (i + (d + 1)) (by omega)
    have c := (h.1 (i + (d + 1)) (by omega)).1
    rw [show i + (d + 1 + 1) = i + (d + 1) + 1 by omega]
    omega

theorem found_le {ins : Nat → Bool} {s : Nat} {out : Rgs} (h : Good ins s out) (n : Nat) : ∀ m, m ≤ out.length →
    (found out n m = 0 ∧ ∀ j, j < m → ¬ ((out.getD j (0, 0)).1 ≤ n ∧ n ≤ (out.getD j (0, 0)).2)) ∨ (found out n m = 1 ∧ ∃ j, j < m ∧ (out.getD j (0, 0)).1 ≤ n ∧ n ≤ (out.getD j (0, 0)).2)
  | 0, _ => .inl ⟨rfl, by omega⟩
  | m + 1, hm => by
    rw [found]
    rcases found_le h n m (by omega) with ⟨a, b⟩ | ⟨a, j, hj, b, c⟩
    · by_cases e : (out.getD m (0, 0)).1 ≤ n ∧ n ≤ (out.getD m (0, 0)).2
      · rw [if_pos e, a]
        exact .inr ⟨rfl, m, by omega, e⟩
      · rw [if_neg e, a]
        refine .inl ⟨rfl, fun j hj => ?_⟩
        by_cases ej : j = m
        · rw [ej]; exact e
        · exact b j (by omega)
    · have := good_mono h j (m - j - 1) (by omega)
      rw [show j + (m - j - 1 + 1) = m by omega] at this
      rw [if_neg (by omega), a]
      exact .inr ⟨rfl, j, by omega, b, c⟩

/-- the ranges of a rectangle -/
def cov (o : Nat) (w : Rect) : Rgs := scan (fun i => w.has (pnt o i)) (4 ^ o) 0 []

theorem cov_visit (o : Nat) (w : Rect) : visit w o o 0 [] = cov o w := by
  have := visit_scan w o o 0 [] (Nat.le_refl _) (by simp)
  rwa [Nat.zero_mul] at this

theorem cov_good (o : Nat) (w : Rect) : Good (fun i => w.has (pnt o i)) (4 ^ o) (cov o w) := by
  have := good_scan (fun i => w.has (pnt o i)) (4 ^ o) 0 [] (good_nil _)
  rwa [Nat.zero_add] at this

theorem cov_found (o x y : Nat) (w : Rect) (hx : x < 2 ^ o) (hy : y < 2 ^ o) :
    found (cov o w) (idx o x y) (cov o w).length ≤ 1 ∧ (found (cov o w) (idx o x y) (cov o w).length = 1 ↔ w.has (x, y) = true) := by
  have g := cov_good o w
  have h3 := g.2.2 (idx o x y) (idx_lt o x y hx hy)
  simp only [pnt_idx o x y hx hy] at h3
  rcases found_le g (idx o x y) _ (Nat.le_refl _) with ⟨a, b⟩ | ⟨a, b⟩
  · rw [a]
    refine ⟨by omega, ?_⟩
    rw [h3]
    constructor
    · intro h; omega
    · rintro ⟨j, hj, c⟩; exact absurd c (b j hj)
  · rw [a, h3]
    exact ⟨Nat.le_refl _, fun _ => b, fun _ => rfl⟩
end Go.Proofs.YtnpkbjekodjcjaaDoor.Hil
