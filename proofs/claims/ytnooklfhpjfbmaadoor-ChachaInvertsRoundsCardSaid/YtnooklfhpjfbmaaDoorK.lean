/- Plain laws for ChachaInvertsRounds: the bytes of a block, the words of its bytes, the quarter rounds undone. -/
import Derived.Test.YtnooklfhpjfbmaaDoorJ
set_option linter.all false
namespace Go.Proofs.YtnooklfhpjfbmaaDoor
open Go.RowKit Go.Fen
set_option linter.unusedVariables false

theorem getD_set8 (l : List (BitVec 8)) (i j : Nat) (v : BitVec 8) (hi : i < l.length) : (l.set i v).getD j 0#8 = if i = j then v else l.getD j 0#8 := by
  simp only [List.getD, List.getElem?_set]
  split
  · subst_vars; simp [hi]
  · rfl
theorem outB_get (f l : List (BitVec 32)) (n : Nat) (hn : n ≤ 16) (i k : Nat) (hi : i < n) (hk : k < 4) : (outB f l n).getD (4 * i + k) 0#8 = byteW (l.getD i 0#32 + f.getD i 0#32) k := by
  induction n with
  | zero => omega
  | succ n ih =>
    have hl := length_outB f l n
    rw [outB, getD_set8 _ _ _ _ (by simp [hl]; omega), getD_set8 _ _ _ _ (by simp [hl]; omega), getD_set8 _ _ _ _ (by simp [hl]; omega), getD_set8 _ _ _ _ (by simp [hl]; omega)]
    by_cases e : i = n
    · subst e
      match k, hk with
      | 0, _ => rw [if_neg (by omega), if_neg (by omega), if_neg (by omega), if_pos (by omega)]
      | 1, _ => rw [if_neg (by omega), if_neg (by omega), if_pos (by omega)]
      | 2, _ => rw [if_neg (by omega), if_pos (by omega)]
      | 3, _ => rw [if_pos (by omega)]
    · rw [if_neg (by omega), if_neg (by omega), if_neg (by omega), if_neg (by omega)]
      exact ih (by omega) (by omega)

/-- t bytes, the highest one first, taken into a word -/
def accW (b : Nat → BitVec 8) : Nat → BitVec 32
  | 0 => 0#32
  | t + 1 => accW b t <<< 8 ||| (b (3 - t)).setWidth 32
theorem shl_or (a : BitVec 32) (ha : a.toNat < 16777216) (b : BitVec 8) : (a <<< 8 ||| b.setWidth 32).toNat = a.toNat * 256 + b.toNat := by
  have hb := b.isLt
  rw [BitVec.toNat_or, BitVec.toNat_shiftLeft, Nat.shiftLeft_eq, BitVec.toNat_setWidth, Nat.mod_eq_of_lt (by omega : b.toNat < 2 ^ 32), Nat.mod_eq_of_lt (by omega : a.toNat * 2 ^ 8 < 2 ^ 32),
    nat_join 8 (a.toNat * 2 ^ 8) b.toNat (by omega) (by omega)]
theorem accW_word (x : BitVec 32) : accW (byteW x) 4 = x := by
  have hx := x.isLt
  have hb : ∀ k, (byteW x k).toNat = x.toNat / 2 ^ (8 * k) % 256 := fun k => by
    rw [byteW, BitVec.toNat_setWidth, BitVec.toNat_ushiftRight, Nat.shiftRight_eq_div_pow]
  have h0 := (byteW x 0).isLt
  have h1 := (byteW x 1).isLt
  have h2 := (byteW x 2).isLt
  have h3 := (byteW x 3).isLt
  have e1 : (accW (byteW x) 1).toNat = (byteW x 3).toNat := by
    have := shl_or 0#32 (by simp) (byteW x 3)
    simpa [accW] using this
  have e2 : (accW (byteW x) 2).toNat = (byteW x 3).toNat * 256 + (byteW x 2).toNat := by
    have := shl_or (accW (byteW x) 1) (by omega) (byteW x 2)
    rw [e1] at this
    exact this
  have e3 : (accW (byteW x) 3).toNat = ((byteW x 3).toNat * 256 + (byteW x 2).toNat) * 256 + (byteW x 1).toNat := by
    have := shl_or (accW (byteW x) 2) (by omega) (byteW x 1)
    rw [e2] at this
    exact this
  have e4 : (accW (byteW x) 4).toNat = (((byteW x 3).toNat * 256 + (byteW x 2).toNat) * 256 + (byteW x 1).toNat) * 256 + (byteW x 0).toNat := by
    have := shl_or (accW (byteW x) 3) (by omega) (byteW x 0)
    rw [e3] at this
    exact this
  apply BitVec.eq_of_toNat_eq
  rw [e4, hb, hb, hb, hb]
  simp only [Nat.mul_zero, Nat.pow_zero, Nat.div_one, Nat.mul_one, show 2 ^ 8 = 256 from rfl, show 2 ^ (8 * 2) = 65536 from rfl, show 2 ^ (8 * 3) = 16777216 from rfl]
  omega
theorem acc_congr (b b' : Nat → BitVec 8) (h : ∀ k, k < 4 → b k = b' k) (t : Nat) (ht : t ≤ 4) : accW b t = accW b' t := by
  induction t with
  | zero => rfl
  | succ t ih => rw [accW, accW, ih (by omega), h (3 - t) (by omega)]

theorem unquarter_quarter (l : List (BitVec 32)) (a b c d : Nat) (hl : l.length = 16) (ha : a < 16) (hb : b < 16) (hc : c < 16) (hd : d < 16) (hab : a ≠ b) (hac : a ≠ c) (had : a ≠ d) (hbc : b ≠ c) (hbd : b ≠ d) (hcd : c ≠ d) :
    unquarter (quarter l a b c d) a b c d = l := by
  have h1 : (mixL l a b d 16).length = 16 := by rw [length_mixL, hl]
  have h2 : (mixL (mixL l a b d 16) c d b 12).length = 16 := by rw [length_mixL, h1]
  have h3 : (mixL (mixL (mixL l a b d 16) c d b 12) a b d 8).length = 16 := by rw [length_mixL, h2]
  unfold unquarter quarter
  rw [show (25 : Nat) = 32 - 7 from rfl, unmix_mix _ c d b 7 (by omega) (by omega) (by omega) hcd (fun e => hbc e.symm) (fun e => hbd e.symm) (by omega) (by omega)]
  rw [show (24 : Nat) = 32 - 8 from rfl, unmix_mix _ a b d 8 (by omega) (by omega) (by omega) hab had hbd (by omega) (by omega)]
  rw [show (20 : Nat) = 32 - 12 from rfl, unmix_mix _ c d b 12 (by omega) (by omega) (by omega) hcd (fun e => hbc e.symm) (fun e => hbd e.symm) (by omega) (by omega)]
  rw [show unmixL (mixL l a b d 16) a b d 16 = unmixL (mixL l a b d 16) a b d (32 - 16) from rfl, unmix_mix _ a b d 16 (by omega) (by omega) (by omega) hab had hbd (by omega) (by omega)]

theorem qi_facts (j : Nat) (hj : j < 8) : (qi j 0 < 16 ∧ qi j 1 < 16 ∧ qi j 2 < 16 ∧ qi j 3 < 16) ∧ (qi j 0 ≠ qi j 1 ∧ qi j 0 ≠ qi j 2 ∧ qi j 0 ≠ qi j 3 ∧ qi j 1 ≠ qi j 2 ∧ qi j 1 ≠ qi j 3 ∧ qi j 2 ≠ qi j 3) := by
  match j, hj with
  | 0, _ | 1, _ | 2, _ | 3, _ | 4, _ | 5, _ | 6, _ | 7, _ => decide
theorem undo_inner (j : Nat) (hj : j < 8) (l : List (BitVec 32)) (hl : l.length = 16) : unquarter (innerQ (j + 1) l) (qi j 0) (qi j 1) (qi j 2) (qi j 3) = innerQ j l := by
  obtain ⟨⟨h0, h1, h2, h3⟩, h4, h5, h6, h7, h8, h9⟩ := qi_facts j hj
  exact unquarter_quarter _ _ _ _ _ (by rw [length_innerQ, hl]) h0 h1 h2 h3 h4 h5 h6 h7 h8 h9
theorem qtab_cells (j : Nat) (hj : j < 8) : ∀ (i : Nat) (v : Value), [Value.int .i64 (qi j 0 : Nat), Value.int .i64 (qi j 1 : Nat), Value.int .i64 (qi j 2 : Nat), Value.int .i64 (qi j 3 : Nat)][i]? = some v → (icells qtab)[4 * j + i]? = some v := by
  intro i v
  match j, hj with
  | 0, _ | 1, _ | 2, _ | 3, _ | 4, _ | 5, _ | 6, _ | 7, _ =>
    match i with
    | 0 | 1 | 2 | 3 => intro h; simp [qi, qtab, icells] at h ⊢; exact h
    | (i + 4) => intro h; simp at h
/-- the words that the law takes out of a block -/
theorem word_back (K N : List (BitVec 8)) (n : BitVec 32) (i : Nat) (hi : i < 16) (b : Nat → BitVec 8) (hb : ∀ k, k < 4 → b k = (blockL K N n).getD (4 * i + k) 0#8) :
    accW b 4 - (initL K N n).getD i 0#32 = (roundsQ 10 (initL K N n)).getD i 0#32 := by
  have e : accW b 4 = (roundsQ 10 (initL K N n)).getD i 0#32 + (initL K N n).getD i 0#32 := by
    rw [acc_congr b (byteW ((roundsQ 10 (initL K N n)).getD i 0#32 + (initL K N n).getD i 0#32)) (fun k hk => by rw [hb k hk]; exact outB_get _ _ 16 (by omega) i k hi hk) 4 (by omega), accW_word]
  rw [e, BitVec.add_sub_cancel]
end Go.Proofs.YtnooklfhpjfbmaaDoor
