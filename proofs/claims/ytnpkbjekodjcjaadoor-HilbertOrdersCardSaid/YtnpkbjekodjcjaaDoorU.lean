/- Lists of ranges that a call appends to; rounding down. -/
import Derived.Test.YtnpkbjekodjcjaaDoorT
set_option linter.all false
namespace Go.Proofs.YtnpkbjekodjcjaaDoor
open Go.RowKit Go.Fen Hil
set_option linter.unusedVariables false
set_option maxHeartbeats 4000000

theorem land_down (x k : Nat) (hx : x < 4294967296) (hk : k ≤ 16) : x &&& (4294967295 - (2 ^ k - 1)) = down k x := by
  have h2 := two_pos k
  have hk2 := pow_le16 k hk
  have e : 4294967295 - (2 ^ k - 1) = 2 ^ 32 - ((2 ^ k - 1) + 1) := by omega
  rw [e]
  apply Nat.eq_of_testBit_eq
  intro i
  have e2 : down k x = (x >>> k) <<< k := by rw [down, Nat.shiftRight_eq_div_pow, Nat.shiftLeft_eq]
  rw [e2, Nat.testBit_and, Nat.testBit_two_pow_sub_succ (by omega), Nat.testBit_two_pow_sub_one, Nat.testBit_shiftLeft, Nat.testBit_shiftRight]
  by_cases h : i < k
  · simp [h]; intro; omega
  · have h1 : k ≤ i := by omega
    by_cases h3 : i < 32
    · simp [h, h1, h3, show k + (i - k) = i by omega]
    · have hp : 2 ^ 32 ≤ 2 ^ i := Nat.pow_le_pow_right (n := 2) (by omega) (by omega)
      have : x.testBit i = false := Nat.testBit_lt_two_pow (by omega)
      simp [h, h1, h3, show k + (i - k) = i by omega, this]
theorem andNot_down (x k : Nat) (hx : x < 4294967296) (hk : k ≤ 16) : bits .andNot .u32 (x : Int) ((2 ^ k - 1 : Nat) : Int) = ((down k x : Nat) : Int) := by
  have hk2 := pow_le16 k hk
  rw [u32_andNot_nat x (2 ^ k - 1) hx (by omega), land_down x k hx hk]

def rcells (L : List (Nat × Nat)) : List Value := L.flatMap rcell
theorem length_rcells (L : List (Nat × Nat)) : (rcells L).length = L.length * 2 := by
  induction L with
  | nil => rfl
  | cons f L ih => simp only [rcells, List.flatMap_cons, List.length_append, List.length_cons] at ih ⊢; rw [ih]; simp [rcell]; omega
theorem rcells_snoc (L : List (Nat × Nat)) (f : Nat × Nat) : rcells (L ++ [f]) = rcells L ++ rcell f := by simp [rcells]
theorem get_rcells : ∀ (L : List (Nat × Nat)) (i j : Nat), i < L.length → j < 2 → (rcells L)[i * 2 + j]? = (rcell (L.getD i (0, 0)))[j]?
  | [], i, j, h, _ => by simp at h
  | f :: L, 0, j, h, hj => by
    simp only [rcells, List.flatMap_cons, Nat.zero_mul, Nat.zero_add]
    rw [List.getElem?_append_left (by simp [rcell]; omega)]
    rfl
  | f :: L, i + 1, j, h, hj => by
    simp only [rcells, List.flatMap_cons]
    rw [List.getElem?_append_right (by simp [rcell]; omega)]
    have := get_rcells L i j (by simpa using h) hj
    simp only [rcells] at this
    rw [show (i + 1) * 2 + j - (rcell f).length = i * 2 + j by simp [rcell]; omega, this]
    rfl
theorem set_rcells (L : List (Nat × Nat)) (i b : Nat) (h : i < L.length) : (rcells L).set (i * 2 + 1) (.int .u64 (b : Int)) = rcells (L.set i ((L.getD i (0, 0)).1, b)) := by
  apply List.ext_getElem?
  intro q
  by_cases hq : q < L.length * 2
  · have hd : q = q / 2 * 2 + q % 2 := by omega
    have hm : q % 2 < 2 := by omega
    rw [hd, get_rcells _ _ _ (by rw [List.length_set]; omega) hm, List.getElem?_set]
    have hg : (L.set i ((L.getD i (0, 0)).1, b)).getD (q / 2) (0, 0) = if i = q / 2 then ((L.getD i (0, 0)).1, b) else L.getD (q / 2) (0, 0) := by
      simp only [List.getD, List.getElem?_set]
      by_cases e : i = q / 2
      · rw [if_pos e, if_pos e, if_pos (by omega)]; rfl
      · rw [if_neg e, if_neg e]
    rw [hg]
    by_cases e : i = q / 2
    · subst e
      rw [if_pos rfl]
      have : q % 2 = 0 ∨ q % 2 = 1 := by omega
      rcases this with h0 | h0
      · rw [if_neg (by omega), h0, Nat.add_zero]
        have := get_rcells L (q / 2) 0 h (by omega)
        rw [Nat.add_zero] at this
        rw [this]; rfl
      · rw [h0, if_pos rfl, if_pos (by rw [length_rcells]; omega)]; rfl
    · rw [if_neg e, if_neg (by omega)]
      exact get_rcells L (q / 2) (q % 2) (by omega) hm
  · rw [List.getElem?_eq_none (by rw [List.length_set, length_rcells]; omega), List.getElem?_eq_none (by rw [length_rcells, List.length_set]; omega)]

theorem Tryd.info58 : (Tryd.prog.info? 58).map (fun i => (i.zero, i.size, i.bytes)) = some (some (.agg #[.int .u64 0, .int .u64 0]), 2, 16) := by kernel_rfl

/-- in w the variable at gv holds a list of ranges of the call's own; nothing else has turned since V0 -/
def AccR (V0 : World) (gv : Nat) (v : Value) (L : List (Nat × Nat)) (w : World) : Prop :=
  w.ownsRow V0.heap.size 58 2 v L.length (rcells L) ∧ Row w gv 54 #[v] ∧ V0.grownBy w (some gv)
theorem AccR.call {V0 w w' : World} {gv : Nat} {v : Value} {L : List (Nat × Nat)} (h : AccR V0 gv v L w) (hb : Below w.heap.size w w') : AccR V0 gv v L w' :=
  ⟨owns_below h.1 hb (Nat.le_refl _), h.2.1.below hb h.2.1.lt, grown_below h.2.2 hb h.2.2.size⟩
theorem AccR.push {V0 w w1 w' : World} {gv : Nat} {v v' : Value} {L L' : List (Nat × Nat)} (h : AccR V0 gv v L w) (hV : gv < V0.heap.size) (h1 : Below w.heap.size w w1) (hv' : w'.ownsRow V0.heap.size 58 2 v' L'.length (rcells L')) (hg : w1.grownBy w' v.ownBlock) :
    Row w' gv 54 #[v] ∧ AccR V0 gv v' L' (w'.setCell ⟨gv, 0, none⟩ v') := by
  have hge : ∀ k, v.ownBlock = some k → V0.heap.size ≤ k := fun k hk => (h.1.lt k hk).1
  have b : Below V0.heap.size w w' := (h1.mono h.2.2.size).trans (Below.grown (Below.refl _ _) hg (Nat.le_trans h.2.2.size h1.size) hge)
  have r := h.2.1.below b hV
  refine ⟨r, ?_, r.set 0 v', grown_set (grown_below h.2.2 b (Nat.le_refl _)) 0 v'⟩
  exact owns_grown hv' (grown_set (grown_refl w' (some gv)) 0 v') (.inl (fun e => by have := (hv'.lt gv e).1; omega))
/-- the end of the last range is moved -/
theorem AccR.setLast {V0 w : World} {gv g n cap i b : Nat} {L : List (Nat × Nat)} (h : AccR V0 gv (.slice (some ⟨g, 0, none⟩) n cap) L w) (hV : gv < V0.heap.size) (hn : n = L.length) (hi : i < L.length) :
    AccR V0 gv (.slice (some ⟨g, 0, none⟩) n cap) (L.set i ((L.getD i (0, 0)).1, b)) (w.setCell ⟨g, i * 2 + 1, none⟩ (.int .u64 (b : Int))) := by
  subst hn
  have hge := (h.1.lt g rfl).1
  refine ⟨?_, h.2.1.setOther (by show gv ≠ g; omega) _, ?_⟩
  · have := h.1.stored (i * 2 + 1) (.int .u64 (b : Int))
    rw [set_rcells L i b hi] at this
    rw [List.length_set]
    exact this.1
  · have k := h.2.2
    have := (Below.refl V0.heap.size w).setCell (p := ⟨g, i * 2 + 1, none⟩) hge (.int .u64 (b : Int))
    exact grown_below k this (Nat.le_refl _)
end Go.Proofs.YtnpkbjekodjcjaaDoor
