/- Plain laws of stable sorting: insertion, uniqueness. -/
import Derived.Test.YtnpkbjekodjcjaaDoorPl
set_option linter.all false
namespace Go.Proofs.YtnpkbjekodjcjaaDoor.Hil

/-- the order of rows: by key, then by number -/
def lt (K : List Nat) (x y : Nat) : Prop := K.getD x 0 < K.getD y 0 ∨ K.getD x 0 = K.getD y 0 ∧ x < y
theorem lt_trans {K : List Nat} {x y z : Nat} (h : lt K x y) (k : lt K y z) : lt K x z := by unfold lt at *; omega
theorem lt_irrefl {K : List Nat} {x : Nat} (h : lt K x x) : False := by unfold lt at *; omega

abbrev at' (D : List Nat) (i : Nat) : Nat := D.getD i 0

/-- the range [a, b) is sorted -/
def Srt (K : List Nat) (D : List Nat) (a b : Nat) : Prop := ∀ p q, a ≤ p → p < q → q < b → lt K (at' D p) (at' D q)

/-- what a step may do to a list: the same length; outside [a, b) nothing; inside the same members -/
def Mix (a b : Nat) (D E : List Nat) : Prop :=
  E.length = D.length ∧ (∀ i, i < a ∨ b ≤ i → at' E i = at' D i) ∧ (∀ i, a ≤ i → i < b → ∃ j, a ≤ j ∧ j < b ∧ at' E i = at' D j) ∧ (∀ j, a ≤ j → j < b → ∃ i, a ≤ i ∧ i < b ∧ at' E i = at' D j)
theorem Mix.refl (a b : Nat) (D : List Nat) : Mix a b D D := ⟨rfl, fun _ _ => rfl, fun i h1 h2 => ⟨i, h1, h2, rfl⟩, fun i h1 h2 => ⟨i, h1, h2, rfl⟩⟩
theorem Mix.trans {a b : Nat} {D E F : List Nat} (h : Mix a b D E) (k : Mix a b E F) : Mix a b D F := by
  refine ⟨k.1.trans h.1, fun i hi => (k.2.1 i hi).trans (h.2.1 i hi), fun i h1 h2 => ?_, fun j h1 h2 => ?_⟩
  · obtain ⟨j, j1, j2, e⟩ := k.2.2.1 i h1 h2
    obtain ⟨l, l1, l2, e2⟩ := h.2.2.1 j j1 j2
    exact ⟨l, l1, l2, e.trans e2⟩
  · obtain ⟨l, l1, l2, e2⟩ := h.2.2.2 j h1 h2
    obtain ⟨i, i1, i2, e⟩ := k.2.2.2 l l1 l2
    exact ⟨i, i1, i2, e.trans e2⟩
theorem Mix.wider {a b c d : Nat} {D E : List Nat} (h : Mix a b D E) (hc : c ≤ a) (hd : b ≤ d) : Mix c d D E := by
  refine ⟨h.1, fun i hi => h.2.1 i (by omega), fun i h1 h2 => ?_, fun j h1 h2 => ?_⟩
  · by_cases hi : a ≤ i ∧ i < b
    · obtain ⟨j, j1, j2, e⟩ := h.2.2.1 i hi.1 hi.2
      exact ⟨j, by omega, by omega, e⟩
    · exact ⟨i, h1, h2, h.2.1 i (by omega)⟩
  · by_cases hj : a ≤ j ∧ j < b
    · obtain ⟨i, i1, i2, e⟩ := h.2.2.2 j hj.1 hj.2
      exact ⟨i, by omega, by omega, e⟩
    · exact ⟨j, h1, h2, h.2.1 j (by omega)⟩
theorem Srt.mix_out {K : List Nat} {a b c d : Nat} {D E : List Nat} (h : Srt K D c d) (m : Mix a b D E) (hd : d ≤ a ∨ b ≤ c) : Srt K E c d := fun p q h1 h2 h3 => by
  rw [m.2.1 p (by omega), m.2.1 q (by omega)]
  exact h p q h1 h2 h3

/-- two neighbours (or any two places) change places -/
def swp (D : List Nat) (i j : Nat) : List Nat := (D.set i (at' D j)).set j (at' D i)
theorem at_swp (D : List Nat) (i j k : Nat) (hi : i < D.length) (hj : j < D.length) : at' (swp D i j) k = if k = j then at' D i else if k = i then at' D j else at' D k := by
  unfold swp at'
  simp only [List.getD, List.getElem?_set]
  by_cases h1 : j = k
  · subst h1; simp [hj]
  · by_cases h2 : i = k
    · subst h2
      simp [h1, hi]; intro h; omega
    · simp [h1, h2]
      rw [if_neg (by omega), if_neg (by omega)]
theorem length_swp (D : List Nat) (i j : Nat) : (swp D i j).length = D.length := by simp [swp]
theorem mix_swp (D : List Nat) (a b i j : Nat) (hi : i < D.length) (hj : j < D.length) (h1 : a ≤ i) (h2 : i < b) (h3 : a ≤ j) (h4 : j < b) : Mix a b D (swp D i j) := by
  refine ⟨length_swp _ _ _, fun k hk => ?_, fun k k1 k2 => ?_, fun k k1 k2 => ?_⟩
  · rw [at_swp _ _ _ _ hi hj, if_neg (by omega), if_neg (by omega)]
  · rw [at_swp _ _ _ _ hi hj]
    by_cases e : k = j
    · exact ⟨i, h1, h2, by rw [if_pos e]⟩
    · rw [if_neg e]
      by_cases e2 : k = i
      · exact ⟨j, h3, h4, by rw [if_pos e2]⟩
      · exact ⟨k, k1, k2, by rw [if_neg e2]⟩
  · by_cases e : k = j
    · by_cases e2 : i = j
      · exact ⟨k, k1, k2, by rw [at_swp _ _ _ _ hi hj, if_pos e, e2, e]⟩
      · exact ⟨i, h1, h2, by rw [at_swp _ _ _ _ hi hj, if_neg e2, if_pos rfl, e]⟩
    · by_cases e2 : k = i
      · exact ⟨j, h3, h4, by rw [at_swp _ _ _ _ hi hj, if_pos rfl, e2]⟩
      · exact ⟨k, k1, k2, by rw [at_swp _ _ _ _ hi hj, if_neg e, if_neg e2]⟩

/-- the state of a sinking number: it stands at j, in [a, i] all else is sorted, what stands behind it is greater, what stands ahead of it has a lesser number -/
def Sink (K D : List Nat) (a j i : Nat) : Prop :=
  (∀ p q, a ≤ p → p < q → q ≤ i → p ≠ j → q ≠ j → lt K (at' D p) (at' D q)) ∧ (∀ q, j < q → q ≤ i → lt K (at' D j) (at' D q)) ∧ (∀ p, a ≤ p → p < j → at' D p < at' D j)
theorem Sink.start {K D : List Nat} {a i : Nat} (h : Srt K D a i) (hl : ∀ p, a ≤ p → p < i → at' D p < at' D i) : Sink K D a i i :=
  ⟨fun p q h1 h2 h3 h4 h5 => h p q h1 h2 (by omega), fun q h1 h2 => by omega, hl⟩
theorem Sink.step {K D : List Nat} {a j i : Nat} (h : Sink K D a j i) (hj : a < j) (hji : j ≤ i) (hi : i < D.length) (hk : K.getD (at' D j) 0 < K.getD (at' D (j - 1)) 0) : Sink K (swp D j (j - 1)) a (j - 1) i := by
  obtain ⟨h1, h2, h3⟩ := h
  have A := fun k => at_swp D j (j - 1) k (by omega) (by omega)
  refine ⟨fun p q p1 pq q1 n1 n2 => ?_, fun q q1 q2 => ?_, fun p p1 p2 => ?_⟩
  · rw [A, A, if_neg n1, if_neg n2]
    by_cases e : p = j
    · rw [if_pos e, if_neg (by omega)]
      exact h1 (j - 1) q (by omega) (by omega) q1 (by omega) (by omega)
    · rw [if_neg e]
      by_cases e2 : q = j
      · rw [if_pos e2]
        exact h1 p (j - 1) p1 (by omega) (by omega) (by omega) (by omega)
      · rw [if_neg e2]
        exact h1 p q p1 pq q1 e e2
  · rw [A, A, if_pos rfl, if_neg (by omega)]
    by_cases e : q = j
    · rw [if_pos e]; exact .inl hk
    · rw [if_neg e]; exact h2 q (by omega) q2
  · rw [A, A, if_pos rfl, if_neg (by omega), if_neg (by omega)]
    exact h3 p p1 (by omega)
theorem Sink.stop {K D : List Nat} {a j i : Nat} (h : Sink K D a j i) (hja : a ≤ j) (hji : j ≤ i) (hk : j = a ∨ ¬ K.getD (at' D j) 0 < K.getD (at' D (j - 1)) 0) : Srt K D a (i + 1) := by
  obtain ⟨h1, h2, h3⟩ := h
  have hp : ∀ p, a ≤ p → p < j → lt K (at' D p) (at' D j) := fun p p1 p2 => by
    have hn : lt K (at' D (j - 1)) (at' D j) := by
      have := h3 (j - 1) (by omega) (by omega)
      unfold lt; omega
    by_cases e : p = j - 1
    · rw [e]; exact hn
    · exact lt_trans (h1 p (j - 1) p1 (by omega) (by omega) (by omega) (by omega)) hn
  intro p q p1 pq q1
  by_cases e : p = j
  · subst e; exact h2 q pq (by omega)
  · by_cases e2 : q = j
    · subst e2; exact hp p p1 pq
    · exact h1 p q p1 pq (by omega) e e2

/-- a list that is sorted whole is known by its members -/
theorem srt_unique (K : List Nat) : ∀ (D E : List Nat), D.Pairwise (lt K) → E.Pairwise (lt K) → (∀ x, x ∈ D ↔ x ∈ E) → D = E
  | [], [], _, _, _ => rfl
  | [], y :: E, _, _, h => by have := (h y).2 (List.mem_cons_self ..); simp at this
  | x :: D, [], _, _, h => by have := (h x).1 (List.mem_cons_self ..); simp at this
  | x :: D, y :: E, hD, hE, h => by
    rw [List.pairwise_cons] at hD hE
    have hxy : x = y := by
      have h1 := (h x).1 (List.mem_cons_self ..)
      have h2 := (h y).2 (List.mem_cons_self ..)
      rcases List.mem_cons.1 h1 with e | m1
      · exact e
      · rcases List.mem_cons.1 h2 with e | m2
        · exact e.symm
        · exact (lt_irrefl (lt_trans (hD.1 y m2) (hE.1 x m1))).elim
    subst hxy
    congr 1
    refine srt_unique K D E hD.2 hE.2 fun z => ?_
    have hz := h z
    simp only [List.mem_cons] at hz
    constructor
    · intro m
      rcases hz.1 (.inr m) with e | m'
      · subst e; exact (lt_irrefl (hD.1 z m)).elim
      · exact m'
    · intro m
      rcases hz.2 (.inr m) with e | m'
      · subst e; exact (lt_irrefl (hE.1 z m)).elim
      · exact m'

theorem srt_pairwise {K D : List Nat} (h : Srt K D 0 D.length) : D.Pairwise (lt K) := by
  rw [List.pairwise_iff_getElem]
  intro i j hi hj hij
  have := h i j (Nat.zero_le _) hij hj
  simpa [at', List.getD, hi, hj] using this

theorem mix_mem {n : Nat} {D E : List Nat} (h : Mix 0 n D E) (hn : D.length = n) (x : Nat) : x ∈ E ↔ x ∈ D := by
  have mem : ∀ (L : List Nat), x ∈ L ↔ ∃ i, i < L.length ∧ at' L i = x := fun L => by
    rw [List.mem_iff_getElem]
    constructor
    · rintro ⟨i, hi, e⟩; exact ⟨i, hi, by simp [at', List.getD, hi, e]⟩
    · rintro ⟨i, hi, e⟩; exact ⟨i, hi, by simpa [at', List.getD, hi] using e⟩
  rw [mem, mem, h.1, hn]
  constructor
  · rintro ⟨i, hi, e⟩
    obtain ⟨j, _, j2, ej⟩ := h.2.2.1 i (Nat.zero_le _) hi
    exact ⟨j, j2, by rw [← ej, e]⟩
  · rintro ⟨j, hj, e⟩
    obtain ⟨i, _, i2, ei⟩ := h.2.2.2 j (Nat.zero_le _) hj
    exact ⟨i, i2, by rw [ei, e]⟩
end Go.Proofs.YtnpkbjekodjcjaaDoor.Hil
