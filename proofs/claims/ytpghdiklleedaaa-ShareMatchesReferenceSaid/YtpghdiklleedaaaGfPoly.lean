import Derived.Test.YtpghdiklleedaaaGf
set_option linter.all false
namespace Gf

/-- the value of a polynomial (coefficients from the constant one on) -/
def ev : List B → B → B
  | [], _ => 0#8
  | c :: f, x => c ^^^ mul x (ev f x)

theorem ev_zero (f : List B) : ev f 0#8 = f.headD 0#8 := by
  cases f <;> simp [ev, zero_mul]

def padd : List B → List B → List B
  | [], q => q
  | p, [] => p
  | a :: p, b :: q => (a ^^^ b) :: padd p q

theorem ev_padd (p q : List B) (x : B) : ev (padd p q) x = ev p x ^^^ ev q x := by
  induction p generalizing q with
  | nil => simp [padd, ev]
  | cons a p ih =>
    cases q with
    | nil => simp [padd, ev]
    | cons b q =>
      simp only [padd, ev, ih, mul_add]
      ac_rfl

theorem length_padd (p q : List B) : (padd p q).length = max p.length q.length := by
  induction p generalizing q with
  | nil => simp [padd]
  | cons a p ih =>
    cases q with
    | nil => simp [padd]
    | cons b q => simp only [padd, List.length_cons, ih]; omega

def pscale (c : B) (p : List B) : List B := p.map (mul c)
theorem ev_pscale (c : B) (p : List B) (x : B) : ev (pscale c p) x = mul c (ev p x) := by
  induction p with
  | nil => simp [pscale, ev, mul_zero]
  | cons a p ih =>
    have : pscale c (a :: p) = mul c a :: pscale c p := rfl
    rw [this]
    simp only [ev, ih, mul_add]
    rw [mul_left_comm]
theorem length_pscale (c : B) (p : List B) : (pscale c p).length = p.length := by simp [pscale]

/-- g is the function of a polynomial with at most n coefficients -/
def IsPoly (n : Nat) (g : B → B) : Prop := ∃ p : List B, p.length ≤ n ∧ ∀ x, g x = ev p x

theorem IsPoly.mono {n m : Nat} {g : B → B} (h : IsPoly n g) (hm : n ≤ m) : IsPoly m g := by
  obtain ⟨p, hp, hg⟩ := h
  exact ⟨p, by omega, hg⟩
theorem IsPoly.congr {n : Nat} {g h : B → B} (hg : IsPoly n g) (e : ∀ x, h x = g x) : IsPoly n h := by
  obtain ⟨p, hp, hx⟩ := hg
  exact ⟨p, hp, fun x => (e x).trans (hx x)⟩
theorem isPoly_ev (f : List B) : IsPoly f.length (ev f) := ⟨f, Nat.le_refl _, fun _ => rfl⟩
theorem isPoly_zero (n : Nat) : IsPoly n (fun _ => 0#8) := ⟨[], by simp, fun _ => rfl⟩
theorem isPoly_const (c : B) : IsPoly 1 (fun _ => c) := ⟨[c], by simp, fun x => by simp [ev, mul_zero]⟩
theorem IsPoly.add {n : Nat} {g h : B → B} (hg : IsPoly n g) (hh : IsPoly n h) : IsPoly n (fun x => g x ^^^ h x) := by
  obtain ⟨p, hp, hgx⟩ := hg
  obtain ⟨q, hq, hhx⟩ := hh
  exact ⟨padd p q, by rw [length_padd]; omega, fun x => by show g x ^^^ h x = _; rw [ev_padd, hgx, hhx]⟩
theorem IsPoly.scale {n : Nat} {g : B → B} (hg : IsPoly n g) (c : B) : IsPoly n (fun x => mul c (g x)) := by
  obtain ⟨p, hp, hgx⟩ := hg
  exact ⟨pscale c p, by rw [length_pscale]; omega, fun x => by show mul c (g x) = _; rw [ev_pscale, hgx]⟩
theorem IsPoly.lin {n : Nat} {g : B → B} (hg : IsPoly n g) (b : B) : IsPoly (n + 1) (fun x => mul (x ^^^ b) (g x)) := by
  obtain ⟨p, hp, hgx⟩ := hg
  refine ⟨padd (0#8 :: p) (pscale b p), by rw [length_padd, length_pscale, List.length_cons]; omega, fun x => ?_⟩
  show mul (x ^^^ b) (g x) = _
  rw [ev_padd, ev_pscale, add_mul, hgx]
  simp [ev]

/-- division by x - b -/
theorem divide (f : List B) (b : B) : ∃ q : List B, q.length = f.length - 1 ∧ ∀ x, ev f x = ev f b ^^^ mul (x ^^^ b) (ev q x) := by
  induction f with
  | nil => exact ⟨[], rfl, fun x => by simp [ev, mul_zero]⟩
  | cons c f ih =>
    obtain ⟨q, hq, h⟩ := ih
    cases f with
    | nil => exact ⟨[], rfl, fun x => by simp [ev, mul_zero]⟩
    | cons d f =>
      refine ⟨ev (d :: f) b :: q, by simp [hq], fun x => ?_⟩
      have hx := h x
      show c ^^^ mul x (ev (d :: f) x) = c ^^^ mul b (ev (d :: f) b) ^^^ mul (x ^^^ b) (ev (d :: f) b ^^^ mul x (ev q x))
      generalize ev (d :: f) b = r at *
      rw [hx]
      have e1 : mul x (r ^^^ mul (x ^^^ b) (ev q x)) = mul x r ^^^ mul (x ^^^ b) (mul x (ev q x)) := by
        rw [mul_add, mul_left_comm]
      have e2 : mul (x ^^^ b) (r ^^^ mul x (ev q x)) = mul x r ^^^ mul b r ^^^ mul (x ^^^ b) (mul x (ev q x)) := by
        rw [mul_add, add_mul]
      rw [e1, e2]
      generalize mul (x ^^^ b) (mul x (ev q x)) = u
      generalize mul x r = v
      generalize mul b r = t
      have : c ^^^ t ^^^ (v ^^^ t ^^^ u) = (c ^^^ (v ^^^ u)) ^^^ (t ^^^ t) := by ac_rfl
      rw [this]; simp

/-- a polynomial with as many different roots as coefficients is zero -/
theorem roots (n : Nat) : ∀ (f : List B) (xs : List B), f.length ≤ n → n ≤ xs.length → xs.Nodup → (∀ a ∈ xs, ev f a = 0#8) → ∀ x, ev f x = 0#8 := by
  induction n with
  | zero =>
    intro f xs hf _ _ _ x
    have : f = [] := List.length_eq_zero_iff.1 (by omega)
    subst this; rfl
  | succ n ih =>
    intro f xs hf hn hd hr x
    cases xs with
    | nil => simp at hn
    | cons b xs =>
      obtain ⟨q, hq, h⟩ := divide f b
      have hb : ev f b = 0#8 := hr b (by simp)
      obtain ⟨hb', hd'⟩ := List.nodup_cons.1 hd
      have hz := ih q xs (by omega) (by simpa using hn) hd' (fun a ha => by
        have h1 := h a
        rw [hr a (by simp [ha]), hb] at h1
        have h2 : mul (a ^^^ b) (ev q a) = 0#8 := by simpa using h1.symm
        rcases mul_eq_zero h2 with h3 | h3
        · have := xor_eq_zero h3
          subst this
          exact absurd ha hb'
        · exact h3)
      rw [h x, hb, hz x, mul_zero]; rfl

theorem IsPoly.eq {n : Nat} {g h : B → B} (hg : IsPoly n g) (hh : IsPoly n h) (xs : List B) (hn : n ≤ xs.length) (hd : xs.Nodup)
    (ha : ∀ a ∈ xs, g a = h a) (x : B) : g x = h x := by
  obtain ⟨p, hp, hgx⟩ := hg
  obtain ⟨q, hq, hhx⟩ := hh
  have := roots n (padd p q) xs (by rw [length_padd]; omega) hn hd (fun a hm => by
    rw [ev_padd, ← hgx, ← hhx, ha a hm]; simp) x
  rw [ev_padd, ← hgx, ← hhx] at this
  exact xor_eq_zero this

/-- the product of the weights of the points os, at a, for x -/
def wt (x a : B) : List B → B
  | [] => 1#8
  | o :: os => mul (mul (x ^^^ o) (inv (a ^^^ o))) (wt x a os)

theorem wt_append (x a : B) (p q : List B) : wt x a (p ++ q) = mul (wt x a p) (wt x a q) := by
  induction p with
  | nil => simp [wt, one_mul]
  | cons o p ih => simp only [List.cons_append, wt, ih, mul_assoc]

theorem wt_self (a : B) (os : List B) (h : a ∉ os) : wt a a os = 1#8 := by
  induction os with
  | nil => rfl
  | cons o os ih =>
    simp only [List.mem_cons, not_or] at h
    simp only [wt, ih h.2, mul_one]
    exact mul_inv _ (fun e => h.1 (xor_eq_zero e))

theorem wt_hit (x a : B) (os : List B) (h : x ∈ os) : wt x a os = 0#8 := by
  induction os with
  | nil => simp at h
  | cons o os ih =>
    simp only [wt]
    rcases List.mem_cons.1 h with h | h
    · subst h; simp [zero_mul]
    · rw [ih h, mul_zero]

theorem wt_ne_zero (x a : B) (os : List B) (hx : x ∉ os) (ha : a ∉ os) : wt x a os ≠ 0#8 := by
  induction os with
  | nil => simp [wt]
  | cons o os ih =>
    simp only [List.mem_cons, not_or] at hx ha
    exact mul_ne_zero (mul_ne_zero (fun e => hx.1 (xor_eq_zero e)) (inv_ne_zero (fun e => ha.1 (xor_eq_zero e)))) (ih hx.2 ha.2)

theorem isPoly_wt (a : B) (os : List B) : IsPoly (os.length + 1) (fun x => wt x a os) := by
  induction os with
  | nil => exact isPoly_const _
  | cons o os ih =>
    refine ((ih.lin o).scale (inv (a ^^^ o))).congr (fun x => ?_)
    simp only [wt]
    ac_rfl

/-- the sum over the points of rest: 'pre' are those that were passed -/
def lag (x : B) (pre : List B) : List (B × B) → B
  | [] => 0#8
  | (a, y) :: r => mul (wt x a (pre ++ r.map (·.1))) y ^^^ lag x (pre ++ [a]) r

theorem isPoly_lag (pre : List B) (r : List (B × B)) : IsPoly (pre.length + r.length) (fun x => lag x pre r) := by
  induction r generalizing pre with
  | nil => exact isPoly_zero _
  | cons p r ih =>
    obtain ⟨a, y⟩ := p
    have h1 := (isPoly_wt a (pre ++ r.map (·.1))).scale y
    have h2 := ih (pre ++ [a])
    refine ((h1.mono (m := pre.length + (r.length + 1)) (by simp; omega)).add (h2.mono (by simp; omega))).congr (fun x => ?_)
    simp only [lag]
    rw [mul_comm y]

theorem lag_miss (x : B) (pre : List B) (r : List (B × B)) (h : x ∈ pre) : lag x pre r = 0#8 := by
  induction r generalizing pre with
  | nil => rfl
  | cons p r ih =>
    obtain ⟨a, y⟩ := p
    simp only [lag]
    rw [wt_hit x a _ (by simp [h]), zero_mul, ih _ (by simp [h])]; rfl

theorem lag_at (x : B) (pre : List B) (r : List (B × B)) (hd : (pre ++ r.map (·.1)).Nodup) (y : B) (h : (x, y) ∈ r) : lag x pre r = y := by
  induction r generalizing pre with
  | nil => simp at h
  | cons p r ih =>
    obtain ⟨a, z⟩ := p
    simp only [lag]
    have hd' : (pre ++ [a] ++ r.map (·.1)).Nodup := by simpa using hd
    rcases List.mem_cons.1 h with h | h
    · obtain ⟨rfl, rfl⟩ := Prod.mk.inj h
      have hn : x ∉ pre ++ r.map (·.1) := by
        simp only [List.map_cons, List.nodup_append, List.nodup_cons] at hd
        obtain ⟨_, ⟨h1, _⟩, h2⟩ := hd
        intro hm
        rcases List.mem_append.1 hm with hm | hm
        · exact h2 x hm x (by simp) rfl
        · exact h1 hm
      rw [wt_self _ _ hn, one_mul, lag_miss _ _ _ (by simp)]; simp
    · have hx : x ∈ r.map (·.1) := List.mem_map.2 ⟨(x, y), h, rfl⟩
      rw [wt_hit x a _ (by simp [hx]), zero_mul, ih _ hd' h]; simp

/-- INTERPOLATION: through the points of a polynomial with at most as many coefficients goes this polynomial alone. -/
theorem lag_eq (f : List B) (r : List (B × B)) (hd : (r.map (·.1)).Nodup) (hf : f.length ≤ r.length) (hy : ∀ p ∈ r, p.2 = ev f p.1) (x : B) : lag x [] r = ev f x := by
  refine IsPoly.eq (n := r.length) (g := fun x => lag x [] r) ?_ ((isPoly_ev f).mono hf) (r.map (·.1)) (by simp) hd (fun a ha => ?_) x
  · simpa using isPoly_lag [] r
  · obtain ⟨⟨a', y⟩, hm, rfl⟩ := List.mem_map.1 ha
    rw [lag_at _ [] r (by simpa using hd) y hm]
    exact hy _ hm
end Gf
