/- Plain laws of the merging of sorted ranges in place. -/
import Derived.Test.YtnpkbjekodjcjaaDoorSo
set_option linter.all false
namespace Go.Proofs.YtnpkbjekodjcjaaDoor.Hil
set_option linter.unusedVariables false
set_option maxHeartbeats 4000000

theorem ext_at {D E : List Nat} (hl : E.length = D.length) (h : ∀ k, at' E k = at' D k) : E = D := by
  apply List.ext_getElem hl
  intro i h1 h2
  have := h i
  simpa [at', List.getD, h1, h2] using this
theorem at_out {D : List Nat} {k : Nat} (h : D.length ≤ k) : at' D k = 0 := by simp [at', List.getD, h]

/-- two ranges of n numbers have changed places -/
def SwapR (D E : List Nat) (a b n : Nat) : Prop :=
  E.length = D.length ∧ ∀ k, at' E k = if a ≤ k ∧ k < a + n then at' D (b + (k - a)) else if b ≤ k ∧ k < b + n then at' D (a + (k - b)) else at' D k
theorem SwapR.zero (D : List Nat) (a b : Nat) : SwapR D D a b 0 := ⟨rfl, fun k => by rw [if_neg (by omega), if_neg (by omega)]⟩
theorem SwapR.step {D E : List Nat} {a b n i : Nat} (h : SwapR D E a b i) (hab : a + n ≤ b) (hi : i < n) (hb : b + n ≤ D.length) : SwapR D (swp E (a + i) (b + i)) a b (i + 1) := by
  refine ⟨(length_swp _ _ _).trans h.1, fun k => ?_⟩
  have e := h.2
  rw [at_swp _ _ _ _ (by rw [h.1]; omega) (by rw [h.1]; omega), e (a + i), e (b + i), e k]
  rw [if_neg (show ¬ (a ≤ a + i ∧ a + i < a + i) by omega), if_neg (show ¬ (b ≤ a + i ∧ a + i < b + i) by omega), if_neg (show ¬ (a ≤ b + i ∧ b + i < a + i) by omega), if_neg (show ¬ (b ≤ b + i ∧ b + i < b + i) by omega)]
  by_cases k1 : k = b + i
  · rw [if_pos k1, if_neg (by omega), if_pos (by omega)]; congr 1; omega
  · rw [if_neg k1]
    by_cases k2 : k = a + i
    · rw [if_pos k2, if_pos (by omega)]; congr 1; omega
    · rw [if_neg k2]
      by_cases k3 : a ≤ k ∧ k < a + i
      · rw [if_pos k3, if_pos (by omega)]
      · rw [if_neg k3, if_neg (show ¬ (a ≤ k ∧ k < a + (i + 1)) by omega)]
        by_cases k4 : b ≤ k ∧ k < b + i
        · rw [if_pos k4, if_pos (by omega)]
        · rw [if_neg k4, if_neg (by omega)]

/-- the ranges [a, m) and [m, b) have changed places -/
def rt (D : List Nat) (a m b k : Nat) : Nat := if k < a ∨ b ≤ k then at' D k else if k < a + (b - m) then at' D (k + (m - a)) else at' D (k - (b - m))
def Rot (D E : List Nat) (a m b : Nat) : Prop := E.length = D.length ∧ ∀ k, at' E k = rt D a m b k
theorem Rot.none_left (D : List Nat) (m b : Nat) (h : m ≤ b) : Rot D D m m b := ⟨rfl, fun k => by
  unfold rt
  by_cases h1 : k < m ∨ b ≤ k
  · rw [if_pos h1]
  · rw [if_neg h1, if_pos (by omega)]; congr 1; omega⟩
theorem Rot.none_right (D : List Nat) (a m : Nat) (h : a ≤ m) : Rot D D a m m := ⟨rfl, fun k => by
  unfold rt
  by_cases h1 : k < a ∨ m ≤ k
  · rw [if_pos h1]
  · rw [if_neg h1, if_neg (by omega)]; congr 1; omega⟩
/-- the longer left part: its head has found its place -/
theorem rot_left {D E F : List Nat} {a m b i j : Nat} (hr : ∀ k, rt D a m b k = rt E (m - i) m (m + j) k) (hs : SwapR E F (m - i) m j) (hij : j < i) (hi : i ≤ m) : ∀ k, rt D a m b k = rt F (m - (i - j)) m (m + j) k := by
  intro k
  rw [hr k]
  unfold rt
  have e := hs.2
  rw [e k, e (k + (m - (m - (i - j)))), e (k - (m + j - m))]
  repeat' split
  all_goals first | (exfalso; omega) | (congr 1; omega) | rfl
theorem rot_right {D E F : List Nat} {a m b i j : Nat} (hr : ∀ k, rt D a m b k = rt E (m - i) m (m + j) k) (hs : SwapR E F (m - i) (m + j - i) i) (hij : i < j) (hi : i ≤ m) : ∀ k, rt D a m b k = rt F (m - i) m (m + (j - i)) k := by
  intro k
  rw [hr k]
  unfold rt
  have e := hs.2
  rw [e k, e (k + (m - (m - i))), e (k - (m + (j - i) - m))]
  repeat' split
  all_goals first | (exfalso; omega) | (congr 1; omega) | rfl
theorem rot_end {D E F : List Nat} {a m b i : Nat} (hl : E.length = D.length) (hr : ∀ k, rt D a m b k = rt E (m - i) m (m + i) k) (hs : SwapR E F (m - i) m i) (hi : i ≤ m) : Rot D F a m b := by
  refine ⟨hs.1.trans hl, fun k => ?_⟩
  rw [hr k, hs.2 k]
  unfold rt
  repeat' split
  all_goals first | (exfalso; omega) | (congr 1; omega) | rfl

/-- one step of moving the first number to the right -/
theorem rot_up {D E : List Nat} {a k i : Nat} (h : Rot D E a (a + 1) (k + 1)) (ha : a ≤ k) (hk : k + 1 < D.length) : Rot D (swp E k (k + 1)) a (a + 1) (k + 1 + 1) := by
  refine ⟨(length_swp _ _ _).trans h.1, fun t => ?_⟩
  have e := h.2
  rw [at_swp _ _ _ _ (by rw [h.1]; omega) (by rw [h.1]; omega), e k, e (k + 1), e t]
  unfold rt
  repeat' split
  all_goals first | (exfalso; omega) | (congr 1; omega) | rfl
/-- one step of moving the last number to the left -/
theorem rot_down {D E : List Nat} {m k : Nat} (h : Rot D E k m (m + 1)) (hk : 0 < k) (hkm : k ≤ m) (hm : m < D.length) : Rot D (swp E k (k - 1)) (k - 1) m (m + 1) := by
  refine ⟨(length_swp _ _ _).trans h.1, fun t => ?_⟩
  have e := h.2
  rw [at_swp _ _ _ _ (by rw [h.1]; omega) (by rw [h.1]; omega), e k, e (k - 1), e t]
  unfold rt
  repeat' split
  all_goals first | (exfalso; omega) | (congr 1; omega) | rfl

theorem Rot.mix {D E : List Nat} {a m b : Nat} (h : Rot D E a m b) (h1 : a ≤ m) (h2 : m ≤ b) : Mix a b D E := by
  refine ⟨h.1, fun i hi => ?_, fun i i1 i2 => ?_, fun j j1 j2 => ?_⟩
  · rw [h.2, rt, if_pos (by omega)]
  · rw [h.2, rt, if_neg (by omega)]
    by_cases c : i < a + (b - m)
    · rw [if_pos c]; exact ⟨_, by omega, by omega, rfl⟩
    · rw [if_neg c]; exact ⟨_, by omega, by omega, rfl⟩
  · by_cases c : j < m
    · refine ⟨j + (b - m), by omega, by omega, ?_⟩
      rw [h.2, rt, if_neg (by omega), if_neg (by omega)]; congr 1; omega
    · refine ⟨j - (m - a), by omega, by omega, ?_⟩
      rw [h.2, rt, if_neg (by omega), if_pos (by omega)]; congr 1; omega

/-- what stands left has the lesser numbers -/
def Apart (D : List Nat) (a m b : Nat) : Prop := ∀ p q, a ≤ p → p < m → m ≤ q → q < b → at' D p < at' D q
theorem Apart.mix_out {D E : List Nat} {a m b c d : Nat} (h : Apart D a m b) (x : Mix c d D E) (hd : b ≤ c ∨ d ≤ a) : Apart E a m b := fun p q h1 h2 h3 h4 => by
  rw [x.2.1 p (by omega), x.2.1 q (by omega)]
  exact h p q h1 h2 h3 h4
theorem Apart.mix_in {D E : List Nat} {a m b : Nat} (h : Apart D a m b) (x : Mix a m D E) : Apart E a m b := fun p q h1 h2 h3 h4 => by
  obtain ⟨j, j1, j2, e⟩ := x.2.2.1 p h1 h2
  rw [e, x.2.1 q (by omega)]
  exact h j q j1 j2 h3 h4
theorem Apart.mix_in' {D E : List Nat} {a m b : Nat} (h : Apart D a m b) (x : Mix m b D E) : Apart E a m b := fun p q h1 h2 h3 h4 => by
  obtain ⟨j, j1, j2, e⟩ := x.2.2.1 q h3 h4
  rw [e, x.2.1 p (by omega)]
  exact h p j h1 h2 j1 j2

theorem lt_or {K : List Nat} {x y : Nat} (h : x < y) : lt K x y ↔ ¬ K.getD y 0 < K.getD x 0 := by unfold lt; omega
theorem lt_or' {K : List Nat} {x y : Nat} (h : x < y) : lt K y x ↔ K.getD y 0 < K.getD x 0 := by unfold lt; omega

/-- what the rotation in the midst of a merge yields -/
structure Halves (K D E : List Nat) (a start mid fin b : Nat) : Prop where
  mix : Mix a b D E
  s1 : Srt K E a start
  s2 : Srt K E start mid
  s3 : Srt K E mid fin
  s4 : Srt K E fin b
  p1 : Apart E a start mid
  p2 : Apart E mid fin b
  cross : ∀ p q, a ≤ p → p < mid → mid ≤ q → q < b → lt K (at' E p) (at' E q)

theorem halves {K D E : List Nat} {a m b start mid fin : Nat} (h : Rot D E start m fin) (S1 : Srt K D a m) (S2 : Srt K D m b) (A : Apart D a m b)
    (a1 : a ≤ start) (a2 : start ≤ m) (a3 : m ≤ fin) (a4 : fin ≤ b) (hm : mid = start + (fin - m))
    (H1 : start = a ∨ fin = b ∨ lt K (at' D (start - 1)) (at' D fin)) (H2 : start = m ∨ fin = m ∨ lt K (at' D (fin - 1)) (at' D start)) : Halves K D E a start mid fin b := by
  have e1 : ∀ k, k < start → at' E k = at' D k := fun k hk => by rw [h.2, rt, if_pos (by omega)]
  have e2 : ∀ k, start ≤ k → k < mid → at' E k = at' D (k + (m - start)) := fun k h1 h2 => by rw [h.2, rt, if_neg (by omega), if_pos (by omega)]
  have e3 : ∀ k, mid ≤ k → k < fin → at' E k = at' D (k - (fin - m)) := fun k h1 h2 => by rw [h.2, rt, if_neg (by omega), if_neg (by omega)]
  have e4 : ∀ k, fin ≤ k → at' E k = at' D k := fun k hk => by rw [h.2, rt, if_pos (by omega)]
  refine ⟨(h.mix a2 a3).wider a1 a4, fun p q x1 x2 x3 => ?_, fun p q x1 x2 x3 => ?_, fun p q x1 x2 x3 => ?_, fun p q x1 x2 x3 => ?_, fun p q x1 x2 x3 x4 => ?_, fun p q x1 x2 x3 x4 => ?_, fun p q x1 x2 x3 x4 => ?_⟩
  · rw [e1 p (by omega), e1 q (by omega)]; exact S1 p q (by omega) (by omega) (by omega)
  · rw [e2 p (by omega) (by omega), e2 q (by omega) (by omega)]; exact S2 _ _ (by omega) (by omega) (by omega)
  · rw [e3 p (by omega) (by omega), e3 q (by omega) (by omega)]; exact S1 _ _ (by omega) (by omega) (by omega)
  · rw [e4 p (by omega), e4 q (by omega)]; exact S2 _ _ (by omega) (by omega) (by omega)
  · rw [e1 p (by omega), e2 q (by omega) (by omega)]; exact A _ _ (by omega) (by omega) (by omega) (by omega)
  · rw [e3 p (by omega) (by omega), e4 q (by omega)]; exact A _ _ (by omega) (by omega) (by omega) (by omega)
  · by_cases c1 : p < start
    · rw [e1 p c1]
      by_cases c2 : q < fin
      · rw [e3 q x3 c2]; exact S1 _ _ (by omega) (by omega) (by omega)
      · rw [e4 q (by omega)]
        have H : lt K (at' D (start - 1)) (at' D fin) := by rcases H1 with r | r | r <;> first | exact r | omega
        have H' : lt K (at' D (start - 1)) (at' D q) := by
          by_cases e : q = fin
          · rw [e]; exact H
          · exact lt_trans H (S2 fin q (by omega) (by omega) (by omega))
        by_cases e : p = start - 1
        · rw [e]; exact H'
        · exact lt_trans (S1 p (start - 1) (by omega) (by omega) (by omega)) H'
    · rw [e2 p (by omega) x2]
      by_cases c2 : q < fin
      · rw [e3 q x3 c2]
        have H : lt K (at' D (fin - 1)) (at' D start) := by rcases H2 with r | r | r <;> first | exact r | omega
        have H' : lt K (at' D (fin - 1)) (at' D (q - (fin - m))) := by
          by_cases e : q - (fin - m) = start
          · rw [e]; exact H
          · exact lt_trans H (S1 start _ (by omega) (by omega) (by omega))
        by_cases e : p + (m - start) = fin - 1
        · rw [e]; exact H'
        · exact lt_trans (S2 _ (fin - 1) (by omega) (by omega) (by omega)) H'
      · rw [e4 q (by omega)]; exact S2 _ _ (by omega) (by omega) (by omega)

/-- the halves are merged one after the other -/
theorem halves_end {K D E F G : List Nat} {a start mid fin b : Nat} (h : Halves K D E a start mid fin b) (x1 : Mix a mid E F) (s1 : Srt K F a mid) (x2 : Mix mid b F G) (s2 : Srt K G mid b) (am : a ≤ mid) (mb : mid ≤ b) : Mix a b D G ∧ Srt K G a b := by
  refine ⟨(h.mix.trans (x1.wider (Nat.le_refl _) mb)).trans (x2.wider am (Nat.le_refl _)), fun p q p1 pq q1 => ?_⟩
  by_cases c1 : q < mid
  · rw [x2.2.1 p (by omega), x2.2.1 q (by omega)]; exact s1 p q p1 pq c1
  · by_cases c2 : mid ≤ p
    · exact s2 p q c2 pq q1
    · rw [x2.2.1 p (by omega)]
      obtain ⟨p', p2, p3, e1⟩ := x1.2.2.1 p p1 (by omega)
      obtain ⟨q', q2, q3, e2⟩ := x2.2.2.1 q (by omega) q1
      rw [e1, e2, x1.2.1 q' (by omega)]
      exact h.cross p' q' p2 p3 q2 q3

/-- one number is put in from the left -/
theorem put_left {K D E : List Nat} {a i b : Nat} (h : Rot D E a (a + 1) i) (S2 : Srt K D (a + 1) b) (i1 : a + 1 ≤ i) (i2 : i ≤ b) (H1 : ∀ t, a + 1 ≤ t → t < i → lt K (at' D t) (at' D a)) (H2 : ∀ t, i ≤ t → t < b → lt K (at' D a) (at' D t)) : Mix a b D E ∧ Srt K E a b := by
  have e1 : ∀ k, a ≤ k → k + 1 < i → at' E k = at' D (k + 1) := fun k h1 h2 => by rw [h.2, rt, if_neg (by omega), if_pos (by omega)]; congr 1; omega
  have e2 : at' E (i - 1) = at' D a := by rw [h.2, rt, if_neg (by omega), if_neg (by omega)]; congr 1; omega
  have e3 : ∀ k, i ≤ k → at' E k = at' D k := fun k h1 => by rw [h.2, rt, if_pos (by omega)]
  refine ⟨(h.mix (by omega) i1).wider (Nat.le_refl _) i2, fun p q p1 pq q1 => ?_⟩
  by_cases c1 : p + 1 < i
  · rw [e1 p p1 c1]
    by_cases c2 : q + 1 < i
    · rw [e1 q (by omega) c2]; exact S2 _ _ (by omega) (by omega) (by omega)
    · by_cases c3 : q = i - 1
      · rw [c3, e2]; exact H1 _ (by omega) (by omega)
      · rw [e3 q (by omega)]; exact S2 _ _ (by omega) (by omega) (by omega)
  · by_cases c3 : p = i - 1
    · rw [c3, e2, e3 q (by omega)]; exact H2 _ (by omega) (by omega)
    · rw [e3 p (by omega), e3 q (by omega)]; exact S2 _ _ (by omega) (by omega) (by omega)
/-- one number is put in from the right -/
theorem put_right {K D E : List Nat} {a i m : Nat} (h : Rot D E i m (m + 1)) (S1 : Srt K D a m) (i1 : a ≤ i) (i2 : i ≤ m) (H1 : ∀ t, a ≤ t → t < i → lt K (at' D t) (at' D m)) (H2 : ∀ t, i ≤ t → t < m → lt K (at' D m) (at' D t)) : Mix a (m + 1) D E ∧ Srt K E a (m + 1) := by
  have e1 : ∀ k, k < i → at' E k = at' D k := fun k h1 => by rw [h.2, rt, if_pos (by omega)]
  have e2 : at' E i = at' D m := by rw [h.2, rt, if_neg (by omega), if_pos (by omega)]; congr 1; omega
  have e3 : ∀ k, i < k → k < m + 1 → at' E k = at' D (k - 1) := fun k h1 h2 => by rw [h.2, rt, if_neg (by omega), if_neg (by omega)]; congr 1; omega
  refine ⟨(h.mix i2 (by omega)).wider i1 (Nat.le_refl _), fun p q p1 pq q1 => ?_⟩
  by_cases c1 : p < i
  · rw [e1 p c1]
    by_cases c2 : q < i
    · rw [e1 q c2]; exact S1 _ _ p1 pq (by omega)
    · by_cases c3 : q = i
      · rw [c3, e2]; exact H1 _ p1 c1
      · rw [e3 q (by omega) q1]; exact S1 _ _ (by omega) (by omega) (by omega)
  · by_cases c3 : p = i
    · rw [c3, e2, e3 q (by omega) q1]; exact H2 _ (by omega) (by omega)
    · rw [e3 p (by omega) (by omega), e3 q (by omega) q1]; exact S1 _ _ (by omega) (by omega) (by omega)

/-- the numbers stay below m -/
theorem Mix.bound {a b m : Nat} {D E : List Nat} (h : Mix a b D E) (hb : b ≤ D.length) (hD : ∀ i, i < D.length → at' D i < m) : ∀ i, i < E.length → at' E i < m := fun i hi => by
  rw [h.1] at hi
  by_cases c : a ≤ i ∧ i < b
  · obtain ⟨j, _, j2, e⟩ := h.2.2.1 i c.1 c.2
    rw [e]; exact hD j (by omega)
  · rw [h.2.1 i (by omega)]; exact hD i hi

/-- after the blocks of s: sorted block by block, the blocks' numbers in the first order -/
def Bk (s : Nat) (K D E : List Nat) (n : Nat) : Prop :=
  Mix 0 n D E ∧ (∀ p q, p < q → q < n → p / s = q / s → lt K (at' E p) (at' E q)) ∧ (∀ p q, p / s < q / s → q < n → at' E p < at' E q)
end Go.Proofs.YtnpkbjekodjcjaaDoor.Hil
