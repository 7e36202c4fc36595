/- Contracts of the reference: Back, Quarters. -/
import Derived.Test.YtnooklfhpjfbmaaDoorL3
import Derived.Test.YtnooklfhpjfbmaaDoorKit5
set_option linter.all false
namespace Go.Proofs.YtnooklfhpjfbmaaDoor
open Go.RowKit Go.Fen
set_option linter.unusedVariables false
set_option maxHeartbeats 400000

theorem Tryd.info35 : (Tryd.prog.info? 35).map (fun i => (i.zero, i.size, i.bytes)) = some (some (.int .u32 0), 1, 4) := by kernel_rfl

theorem quarters_any (w : World) : Calls Tryd.prog 14 #[] w fun e w' => e = .returned (.slice (some ⟨w.heap.size, 0, none⟩) 8 8) ∧ w' = w.alloc (.cells (icells qtab) 44) := by
  go_enter Tryd.func14, Tryd.ntmps14
  go_wp2
  go_ret
  exact ⟨rfl, rfl⟩

/-- what two steps of 'Back' make of a state -/
def unmixL (l : List (BitVec 32)) (a b d k : Nat) : List (BitVec 32) :=
  (l.set d ((l.getD d 0#32).rotateLeft k ^^^ l.getD a 0#32)).set a (l.getD a 0#32 - l.getD b 0#32)
def unquarter (l : List (BitVec 32)) (a b c d : Nat) : List (BitVec 32) := unmixL (unmixL (unmixL (unmixL l c d b 25) a b d 24) c d b 20) a b d 16

theorem getD_set (l : List (BitVec 32)) (i j : Nat) (v : BitVec 32) (hi : i < l.length) : (l.set i v).getD j 0#32 = if i = j then v else l.getD j 0#32 := by
  simp only [List.getD, List.getElem?_set]
  split
  · subst_vars; simp [hi]
  · rfl

theorem rotl_back (x : BitVec 32) (k : Nat) (h0 : 0 < k) (hk : k < 32) : (x.rotateLeft k).rotateLeft (32 - k) = x := by
  apply BitVec.eq_of_getLsbD_eq
  intro i hi
  rw [BitVec.getLsbD_rotateLeft_of_le (by omega)]
  by_cases h : i < 32 - k
  · rw [decide_eq_true h]
    simp only [cond_true]
    rw [BitVec.getLsbD_rotateLeft_of_le (by omega)]
    have h2 : ¬ (32 - (32 - k) + i < k) := by omega
    rw [decide_eq_false h2]
    simp only [cond_false]
    have : 32 - (32 - k) + i < 32 := by omega
    simp [this]
    congr 1; omega
  · rw [decide_eq_false h]
    simp only [cond_false]
    rw [BitVec.getLsbD_rotateLeft_of_le (by omega)]
    have h2 : i - (32 - k) < k := by omega
    rw [decide_eq_true h2]
    have e : 32 - k + (i - (32 - k)) = i := by omega
    simp [hi, e]

theorem unmix_mix (l : List (BitVec 32)) (a b d k : Nat) (ha : a < l.length) (hb : b < l.length) (hd : d < l.length) (hab : a ≠ b) (had : a ≠ d) (hbd : b ≠ d) (h0 : 0 < k) (hk : k < 32) :
    unmixL (mixL l a b d k) a b d (32 - k) = l := by
  have e1 : (mixL l a b d k).getD a 0#32 = l.getD a 0#32 + l.getD b 0#32 := by
    unfold mixL
    rw [getD_set _ _ _ _ (by simpa using hd), if_neg (fun e => had e.symm), getD_set _ _ _ _ ha, if_pos rfl]
  have e2 : (mixL l a b d k).getD b 0#32 = l.getD b 0#32 := by
    unfold mixL
    rw [getD_set _ _ _ _ (by simpa using hd), if_neg (fun e => hbd e.symm), getD_set _ _ _ _ ha, if_neg hab]
  have e3 : (mixL l a b d k).getD d 0#32 = (l.getD d 0#32 ^^^ (l.getD a 0#32 + l.getD b 0#32)).rotateLeft k := by
    unfold mixL
    rw [getD_set _ _ _ _ (by simpa using hd), if_pos rfl]
  have hlen : (mixL l a b d k).length = l.length := by simp [mixL]
  unfold unmixL
  rw [e1, e2, e3, rotl_back _ k h0 hk]
  apply List.ext_getElem?
  intro j
  have x1 : l.getD d 0#32 ^^^ (l.getD a 0#32 + l.getD b 0#32) ^^^ (l.getD a 0#32 + l.getD b 0#32) = l.getD d 0#32 := by
    rw [BitVec.xor_assoc, BitVec.xor_self, BitVec.xor_zero]
  have x2 : l.getD a 0#32 + l.getD b 0#32 - l.getD b 0#32 = l.getD a 0#32 := by
    rw [BitVec.add_sub_cancel]
  rw [x1, x2]
  simp only [List.getElem?_set, List.length_set, hlen]
  by_cases hja : a = j
  · subst hja
    rw [if_pos rfl, if_pos ha]
    simp [List.getD, ha]
  · rw [if_neg hja]
    by_cases hjd : d = j
    · subst hjd
      rw [if_pos rfl, if_pos hd]
      simp [List.getD, hd]
    · rw [if_neg hjd]
      unfold mixL
      rw [List.getElem?_set, if_neg hjd, List.getElem?_set, if_neg hja]

theorem u32_sub_wrap (x y : BitVec 32) : IntKind.u32.wrap ((x.toNat : Int) - y.toNat) = ((x - y).toNat : Int) := by
  rw [show IntKind.u32.wrap ((x.toNat : Int) - y.toNat) = ((x.toNat : Int) - y.toNat) % 4294967296 from rfl]
  exact u32_sub_bv x y
theorem unmix_two (l m n : List (BitVec 32)) (a b d k : Nat) (hl : l.length = 16) (ha : a < 16) (hb : b < 16) (hd : d < 16) (had : a ≠ d) (hbd : b ≠ d)
    (e1 : m = l.set d ((l.getD d 0#32).rotateLeft k ^^^ l.getD a 0#32)) (e2 : n = m.set a (m.getD a 0#32 - m.getD b 0#32)) : unmixL l a b d k = n := by
  have h1 : m.getD a 0#32 = l.getD a 0#32 := by rw [e1, getD_set _ _ _ _ (by omega), if_neg (fun e => had e.symm)]
  have h2 : m.getD b 0#32 = l.getD b 0#32 := by rw [e1, getD_set _ _ _ _ (by omega), if_neg (fun e => hbd e.symm)]
  rw [e2, h1, h2, e1]
  rfl
theorem unquarter_eq (l : List (BitVec 32)) (a b c d : Nat) (hl : l.length = 16) (ha : a < 16) (hb : b < 16) (hc : c < 16) (hd : d < 16) (hab : a ≠ b) (hac : a ≠ c) (had : a ≠ d) (hbc : b ≠ c) (hbd : b ≠ d) (hcd : c ≠ d)
    (l1 l2 l3 l4 l5 l6 l7 l8 : List (BitVec 32)) (e1 : l1 = l.set b ((l.getD b 0#32).rotateLeft 25 ^^^ l.getD c 0#32)) (e2 : l2 = l1.set c (l1.getD c 0#32 - l1.getD d 0#32))
    (e3 : l3 = l2.set d ((l2.getD d 0#32).rotateLeft 24 ^^^ l2.getD a 0#32)) (e4 : l4 = l3.set a (l3.getD a 0#32 - l3.getD b 0#32))
    (e5 : l5 = l4.set b ((l4.getD b 0#32).rotateLeft 20 ^^^ l4.getD c 0#32)) (e6 : l6 = l5.set c (l5.getD c 0#32 - l5.getD d 0#32))
    (e7 : l7 = l6.set d ((l6.getD d 0#32).rotateLeft 16 ^^^ l6.getD a 0#32)) (e8 : l8 = l7.set a (l7.getD a 0#32 - l7.getD b 0#32)) : unquarter l a b c d = l8 := by
  have h1 : l2.length = 16 := by rw [e2, e1]; simpa using hl
  have h2 : l4.length = 16 := by rw [e4, e3]; simpa using h1
  have h3 : l6.length = 16 := by rw [e6, e5]; simpa using h2
  unfold unquarter
  rw [unmix_two l l1 l2 c d b 25 hl hc hd hb (fun e => hbc e.symm) (fun e => hbd e.symm) e1 e2, unmix_two l2 l3 l4 a b d 24 h1 ha hb hd had hbd e3 e4,
    unmix_two l4 l5 l6 c d b 20 h2 hc hd hb (fun e => hbc e.symm) (fun e => hbd e.symm) e5 e6, unmix_two l6 l7 l8 a b d 16 h3 ha hb hd had hbd e7 e8]

set_option maxHeartbeats 4000000 in
theorem back_any (B g cap a b c d : Nat) (l : List (BitVec 32)) (hl : l.length = 16) (ha : a < 16) (hb : b < 16) (hc : c < 16) (hd : d < 16) (hab : a ≠ b) (hac : a ≠ c) (had : a ≠ d) (hbc : b ≠ c) (hbd : b ≠ d) (hcd : c ≠ d) (w : World)
    (hrow : w.ownsRow B 35 1 (.slice (some ⟨g, 0, none⟩) 16 cap) 16 (wvals l)) :
    Calls Tryd.prog 15 #[.slice (some ⟨g, 0, none⟩) 16 cap, .agg #[.int .i64 a, .int .i64 b, .int .i64 c, .int .i64 d]] w fun e w' =>
      e = .returned (.tuple #[]) ∧ w.grownBy w' (some g) ∧ w'.ownsRow B 35 1 (.slice (some ⟨g, 0, none⟩) 16 cap) 16 (wvals (unquarter l a b c d)) := by
  have hW0 : w.grownBy (w.alloc (.cells #[.int .i64 a, .int .i64 b, .int .i64 c, .int .i64 d] 44)) (some g) := World.grownBy_alloc w _ _
  have hR0 := owns_grown hrow (World.grownBy_alloc w (.cells #[.int .i64 a, .int .i64 b, .int .i64 c, .int .i64 d] 44) none) (.inr rfl)
  have hgo : ∀ W : World, w.grownBy W (some g) → ∀ (nq i : Nat) (v : Value), w.grownBy ((W.drewN nq).setCell ⟨g, i, none⟩ v) (some g) := fun W h nq i v => grown_set (grown_drewN h nq) i v
  have Hgo := Lib.hid hgo
  have Hb0 := Lib.hid hrow
  clear hrow hgo
  have ia : (a : Int) < 16 := by omega
  have ib : (b : Int) < 16 := by omega
  have ic : (c : Int) < 16 := by omega
  have id' : (d : Int) < 16 := by omega
  go_enter Tryd.func15, Tryd.ntmps15
  go_wp2
  generalize hw0 : w.alloc (.cells #[.int .i64 a, .int .i64 b, .int .i64 c, .int .i64 d] 44) = W0 at *
  clear hw0
  have H0 : Hid (l.length = 16) := Lib.hid hl
  have R0 := Lib.hid hR0
  have G0 := Lib.hid hW0
  clear hR0 hW0 hl
  obtain ⟨l1, e1⟩ : ∃ m, m = l.set b ((l.getD b 0#32).rotateLeft 25 ^^^ l.getD c 0#32) := ⟨_, rfl⟩
  have E1 := Lib.hid e1
  have H1 : Hid (l1.length = 16) := Lib.hid (by rw [e1, List.length_set]; exact H0.out)
  have c1 := (R0.out.cellAt b (by omega)).trans (get_wvals _ b (by rw [H0.out]; omega))
  have c2 := (R0.out.cellAt c (by omega)).trans (get_wvals _ c (by rw [H0.out]; omega))
  have f1 : (W0).frozen? ⟨g, b, none⟩ = false := R0.out.frozenAt b
  have R' : Hid (∀ nq v, ((W0.drewN nq).setCell ⟨g, b, none⟩ v).ownsRow B 35 1 (.slice (some ⟨g, 0, none⟩) 16 cap) 16 ((wvals l).set b v)) := Lib.hid fun nq v => (World.ownsRow.stored (show (W0.drewN nq).ownsRow B 35 1 (.slice (some ⟨g, 0, none⟩) 16 cap) 16 (wvals l) from R0.out) b v).1
  have hR : ∀ w, Calls Tryd.prog 19 #[.int .u32 (l.getD b 0#32).toNat, .int .i64 25] w fun e w' => e = .returned (.int .u32 ((l.getD b 0#32).rotateLeft 25).toNat) ∧ ∃ n, w' = w.drewN n := fun w => rotate_any _ 25 (by omega) w
  have hx := u32_xor_bv ((l.getD b 0#32).rotateLeft 25) (l.getD c 0#32)
  generalize (l.getD b 0#32).rotateLeft 25 ^^^ l.getD c 0#32 = z0 at e1 hx
  generalize (l.getD b 0#32).rotateLeft 25 = r0 at hR hx
  generalize l.getD b 0#32 = x0 at hR c1
  generalize l.getD c 0#32 = y0 at hx c2
  have HR := Lib.hid hR
  clear hR
  have EZ := Lib.hid e1
  clear e1
  refine wp_region_quiet_last (by kernel_rfl) (by kernel_rfl) _ rfl ?_
  simp only [List.dropLast_cons_cons, List.dropLast_singleton]
  repeat (quiet_step (first | (go_at_call 19; exact Calls.quiet_of (HR.out _))))
  refine wpQuiet_nil ?_
  intro _ hw'
  obtain ⟨nq, hw''⟩ := hw'
  subst hw''
  try rw [hx]
  go_wp2
  have R1 : Hid (((W0.drewN nq).setCell ⟨g, b, none⟩ (.int .u32 z0.toNat)).ownsRow B 35 1 (.slice (some ⟨g, 0, none⟩) 16 cap) 16 (wvals l1)) := Lib.hid (by rw [EZ.out, ← set_wvals]; exact R'.out nq _)
  have G1 : Hid (w.grownBy ((W0.drewN nq).setCell ⟨g, b, none⟩ (.int .u32 z0.toNat)) (some g)) := Lib.hid (Hgo.out _ G0.out _ _ _)
  generalize hW : (W0.drewN nq).setCell ⟨g, b, none⟩ (.int .u32 z0.toNat) = W1 at *
  clear hW
  clear c1 c2 f1 hx EZ R' R0 G0 HR
  obtain ⟨l2, e2⟩ : ∃ m, m = l1.set c (l1.getD c 0#32 - l1.getD d 0#32) := ⟨_, rfl⟩
  have E2 := Lib.hid e2
  have H2 : Hid (l2.length = 16) := Lib.hid (by rw [e2, List.length_set]; exact H1.out)
  have c1 := (R1.out.cellAt c (by omega)).trans (get_wvals _ c (by rw [H1.out]; omega))
  have c2 := (R1.out.cellAt d (by omega)).trans (get_wvals _ d (by rw [H1.out]; omega))
  have f1 : (W1).frozen? ⟨g, c, none⟩ = false := R1.out.frozenAt c
  have R' : Hid (∀ nq v, ((W1.drewN nq).setCell ⟨g, c, none⟩ v).ownsRow B 35 1 (.slice (some ⟨g, 0, none⟩) 16 cap) 16 ((wvals l1).set c v)) := Lib.hid fun nq v => (World.ownsRow.stored (show (W1.drewN nq).ownsRow B 35 1 (.slice (some ⟨g, 0, none⟩) 16 cap) 16 (wvals l1) from R1.out) c v).1
  have hx := u32_sub_wrap (l1.getD c 0#32) (l1.getD d 0#32)
  generalize l1.getD c 0#32 - l1.getD d 0#32 = z1 at e2 hx
  generalize l1.getD c 0#32 = x1 at hx c1
  generalize l1.getD d 0#32 = y1 at hx c2
  have EZ := Lib.hid e2
  clear e2
  refine wp_region_quiet_last (by kernel_rfl) (by kernel_rfl) _ rfl ?_
  simp only [List.dropLast_cons_cons, List.dropLast_singleton]
  repeat (quiet_step (fail))
  refine wpQuiet_nil ?_
  intro _ hw'
  obtain ⟨nq, hw''⟩ := hw'
  subst hw''
  try rw [hx]
  go_wp2
  have R2 : Hid (((W1.drewN nq).setCell ⟨g, c, none⟩ (.int .u32 z1.toNat)).ownsRow B 35 1 (.slice (some ⟨g, 0, none⟩) 16 cap) 16 (wvals l2)) := Lib.hid (by rw [EZ.out, ← set_wvals]; exact R'.out nq _)
  have G2 : Hid (w.grownBy ((W1.drewN nq).setCell ⟨g, c, none⟩ (.int .u32 z1.toNat)) (some g)) := Lib.hid (Hgo.out _ G1.out _ _ _)
  generalize hW : (W1.drewN nq).setCell ⟨g, c, none⟩ (.int .u32 z1.toNat) = W2 at *
  clear hW
  clear c1 c2 f1 hx EZ R' R1 G1
  obtain ⟨l3, e3⟩ : ∃ m, m = l2.set d ((l2.getD d 0#32).rotateLeft 24 ^^^ l2.getD a 0#32) := ⟨_, rfl⟩
  have E3 := Lib.hid e3
  have H3 : Hid (l3.length = 16) := Lib.hid (by rw [e3, List.length_set]; exact H2.out)
  have c1 := (R2.out.cellAt d (by omega)).trans (get_wvals _ d (by rw [H2.out]; omega))
  have c2 := (R2.out.cellAt a (by omega)).trans (get_wvals _ a (by rw [H2.out]; omega))
  have f1 : (W2).frozen? ⟨g, d, none⟩ = false := R2.out.frozenAt d
  have R' : Hid (∀ nq v, ((W2.drewN nq).setCell ⟨g, d, none⟩ v).ownsRow B 35 1 (.slice (some ⟨g, 0, none⟩) 16 cap) 16 ((wvals l2).set d v)) := Lib.hid fun nq v => (World.ownsRow.stored (show (W2.drewN nq).ownsRow B 35 1 (.slice (some ⟨g, 0, none⟩) 16 cap) 16 (wvals l2) from R2.out) d v).1
  have hR : ∀ w, Calls Tryd.prog 19 #[.int .u32 (l2.getD d 0#32).toNat, .int .i64 24] w fun e w' => e = .returned (.int .u32 ((l2.getD d 0#32).rotateLeft 24).toNat) ∧ ∃ n, w' = w.drewN n := fun w => rotate_any _ 24 (by omega) w
  have hx := u32_xor_bv ((l2.getD d 0#32).rotateLeft 24) (l2.getD a 0#32)
  generalize (l2.getD d 0#32).rotateLeft 24 ^^^ l2.getD a 0#32 = z2 at e3 hx
  generalize (l2.getD d 0#32).rotateLeft 24 = r2 at hR hx
  generalize l2.getD d 0#32 = x2 at hR c1
  generalize l2.getD a 0#32 = y2 at hx c2
  have HR := Lib.hid hR
  clear hR
  have EZ := Lib.hid e3
  clear e3
  refine wp_region_quiet_last (by kernel_rfl) (by kernel_rfl) _ rfl ?_
  simp only [List.dropLast_cons_cons, List.dropLast_singleton]
  repeat (quiet_step (first | (go_at_call 19; exact Calls.quiet_of (HR.out _))))
  refine wpQuiet_nil ?_
  intro _ hw'
  obtain ⟨nq, hw''⟩ := hw'
  subst hw''
  try rw [hx]
  go_wp2
  have R3 : Hid (((W2.drewN nq).setCell ⟨g, d, none⟩ (.int .u32 z2.toNat)).ownsRow B 35 1 (.slice (some ⟨g, 0, none⟩) 16 cap) 16 (wvals l3)) := Lib.hid (by rw [EZ.out, ← set_wvals]; exact R'.out nq _)
  have G3 : Hid (w.grownBy ((W2.drewN nq).setCell ⟨g, d, none⟩ (.int .u32 z2.toNat)) (some g)) := Lib.hid (Hgo.out _ G2.out _ _ _)
  generalize hW : (W2.drewN nq).setCell ⟨g, d, none⟩ (.int .u32 z2.toNat) = W3 at *
  clear hW
  clear c1 c2 f1 hx EZ R' R2 G2 HR
  obtain ⟨l4, e4⟩ : ∃ m, m = l3.set a (l3.getD a 0#32 - l3.getD b 0#32) := ⟨_, rfl⟩
  have E4 := Lib.hid e4
  have H4 : Hid (l4.length = 16) := Lib.hid (by rw [e4, List.length_set]; exact H3.out)
  have c1 := (R3.out.cellAt a (by omega)).trans (get_wvals _ a (by rw [H3.out]; omega))
  have c2 := (R3.out.cellAt b (by omega)).trans (get_wvals _ b (by rw [H3.out]; omega))
  have f1 : (W3).frozen? ⟨g, a, none⟩ = false := R3.out.frozenAt a
  have R' : Hid (∀ nq v, ((W3.drewN nq).setCell ⟨g, a, none⟩ v).ownsRow B 35 1 (.slice (some ⟨g, 0, none⟩) 16 cap) 16 ((wvals l3).set a v)) := Lib.hid fun nq v => (World.ownsRow.stored (show (W3.drewN nq).ownsRow B 35 1 (.slice (some ⟨g, 0, none⟩) 16 cap) 16 (wvals l3) from R3.out) a v).1
  have hx := u32_sub_wrap (l3.getD a 0#32) (l3.getD b 0#32)
  generalize l3.getD a 0#32 - l3.getD b 0#32 = z3 at e4 hx
  generalize l3.getD a 0#32 = x3 at hx c1
  generalize l3.getD b 0#32 = y3 at hx c2
  have EZ := Lib.hid e4
  clear e4
  refine wp_region_quiet_last (by kernel_rfl) (by kernel_rfl) _ rfl ?_
  simp only [List.dropLast_cons_cons, List.dropLast_singleton]
  repeat (quiet_step (fail))
  refine wpQuiet_nil ?_
  intro _ hw'
  obtain ⟨nq, hw''⟩ := hw'
  subst hw''
  try rw [hx]
  go_wp2
  have R4 : Hid (((W3.drewN nq).setCell ⟨g, a, none⟩ (.int .u32 z3.toNat)).ownsRow B 35 1 (.slice (some ⟨g, 0, none⟩) 16 cap) 16 (wvals l4)) := Lib.hid (by rw [EZ.out, ← set_wvals]; exact R'.out nq _)
  have G4 : Hid (w.grownBy ((W3.drewN nq).setCell ⟨g, a, none⟩ (.int .u32 z3.toNat)) (some g)) := Lib.hid (Hgo.out _ G3.out _ _ _)
  generalize hW : (W3.drewN nq).setCell ⟨g, a, none⟩ (.int .u32 z3.toNat) = W4 at *
  clear hW
  clear c1 c2 f1 hx EZ R' R3 G3
  obtain ⟨l5, e5⟩ : ∃ m, m = l4.set b ((l4.getD b 0#32).rotateLeft 20 ^^^ l4.getD c 0#32) := ⟨_, rfl⟩
  have E5 := Lib.hid e5
  have H5 : Hid (l5.length = 16) := Lib.hid (by rw [e5, List.length_set]; exact H4.out)
  have c1 := (R4.out.cellAt b (by omega)).trans (get_wvals _ b (by rw [H4.out]; omega))
  have c2 := (R4.out.cellAt c (by omega)).trans (get_wvals _ c (by rw [H4.out]; omega))
  have f1 : (W4).frozen? ⟨g, b, none⟩ = false := R4.out.frozenAt b
  have R' : Hid (∀ nq v, ((W4.drewN nq).setCell ⟨g, b, none⟩ v).ownsRow B 35 1 (.slice (some ⟨g, 0, none⟩) 16 cap) 16 ((wvals l4).set b v)) := Lib.hid fun nq v => (World.ownsRow.stored (show (W4.drewN nq).ownsRow B 35 1 (.slice (some ⟨g, 0, none⟩) 16 cap) 16 (wvals l4) from R4.out) b v).1
  have hR : ∀ w, Calls Tryd.prog 19 #[.int .u32 (l4.getD b 0#32).toNat, .int .i64 20] w fun e w' => e = .returned (.int .u32 ((l4.getD b 0#32).rotateLeft 20).toNat) ∧ ∃ n, w' = w.drewN n := fun w => rotate_any _ 20 (by omega) w
  have hx := u32_xor_bv ((l4.getD b 0#32).rotateLeft 20) (l4.getD c 0#32)
  generalize (l4.getD b 0#32).rotateLeft 20 ^^^ l4.getD c 0#32 = z4 at e5 hx
  generalize (l4.getD b 0#32).rotateLeft 20 = r4 at hR hx
  generalize l4.getD b 0#32 = x4 at hR c1
  generalize l4.getD c 0#32 = y4 at hx c2
  have HR := Lib.hid hR
  clear hR
  have EZ := Lib.hid e5
  clear e5
  refine wp_region_quiet_last (by kernel_rfl) (by kernel_rfl) _ rfl ?_
  simp only [List.dropLast_cons_cons, List.dropLast_singleton]
  repeat (quiet_step (first | (go_at_call 19; exact Calls.quiet_of (HR.out _))))
  refine wpQuiet_nil ?_
  intro _ hw'
  obtain ⟨nq, hw''⟩ := hw'
  subst hw''
  try rw [hx]
  go_wp2
  have R5 : Hid (((W4.drewN nq).setCell ⟨g, b, none⟩ (.int .u32 z4.toNat)).ownsRow B 35 1 (.slice (some ⟨g, 0, none⟩) 16 cap) 16 (wvals l5)) := Lib.hid (by rw [EZ.out, ← set_wvals]; exact R'.out nq _)
  have G5 : Hid (w.grownBy ((W4.drewN nq).setCell ⟨g, b, none⟩ (.int .u32 z4.toNat)) (some g)) := Lib.hid (Hgo.out _ G4.out _ _ _)
  generalize hW : (W4.drewN nq).setCell ⟨g, b, none⟩ (.int .u32 z4.toNat) = W5 at *
  clear hW
  clear c1 c2 f1 hx EZ R' R4 G4 HR
  obtain ⟨l6, e6⟩ : ∃ m, m = l5.set c (l5.getD c 0#32 - l5.getD d 0#32) := ⟨_, rfl⟩
  have E6 := Lib.hid e6
  have H6 : Hid (l6.length = 16) := Lib.hid (by rw [e6, List.length_set]; exact H5.out)
  have c1 := (R5.out.cellAt c (by omega)).trans (get_wvals _ c (by rw [H5.out]; omega))
  have c2 := (R5.out.cellAt d (by omega)).trans (get_wvals _ d (by rw [H5.out]; omega))
  have f1 : (W5).frozen? ⟨g, c, none⟩ = false := R5.out.frozenAt c
  have R' : Hid (∀ nq v, ((W5.drewN nq).setCell ⟨g, c, none⟩ v).ownsRow B 35 1 (.slice (some ⟨g, 0, none⟩) 16 cap) 16 ((wvals l5).set c v)) := Lib.hid fun nq v => (World.ownsRow.stored (show (W5.drewN nq).ownsRow B 35 1 (.slice (some ⟨g, 0, none⟩) 16 cap) 16 (wvals l5) from R5.out) c v).1
  have hx := u32_sub_wrap (l5.getD c 0#32) (l5.getD d 0#32)
  generalize l5.getD c 0#32 - l5.getD d 0#32 = z5 at e6 hx
  generalize l5.getD c 0#32 = x5 at hx c1
  generalize l5.getD d 0#32 = y5 at hx c2
  have EZ := Lib.hid e6
  clear e6
  refine wp_region_quiet_last (by kernel_rfl) (by kernel_rfl) _ rfl ?_
  simp only [List.dropLast_cons_cons, List.dropLast_singleton]
  repeat (quiet_step (fail))
  refine wpQuiet_nil ?_
  intro _ hw'
  obtain ⟨nq, hw''⟩ := hw'
  subst hw''
  try rw [hx]
  go_wp2
  have R6 : Hid (((W5.drewN nq).setCell ⟨g, c, none⟩ (.int .u32 z5.toNat)).ownsRow B 35 1 (.slice (some ⟨g, 0, none⟩) 16 cap) 16 (wvals l6)) := Lib.hid (by rw [EZ.out, ← set_wvals]; exact R'.out nq _)
  have G6 : Hid (w.grownBy ((W5.drewN nq).setCell ⟨g, c, none⟩ (.int .u32 z5.toNat)) (some g)) := Lib.hid (Hgo.out _ G5.out _ _ _)
  generalize hW : (W5.drewN nq).setCell ⟨g, c, none⟩ (.int .u32 z5.toNat) = W6 at *
  clear hW
  clear c1 c2 f1 hx EZ R' R5 G5
  obtain ⟨l7, e7⟩ : ∃ m, m = l6.set d ((l6.getD d 0#32).rotateLeft 16 ^^^ l6.getD a 0#32) := ⟨_, rfl⟩
  have E7 := Lib.hid e7
  have H7 : Hid (l7.length = 16) := Lib.hid (by rw [e7, List.length_set]; exact H6.out)
  have c1 := (R6.out.cellAt d (by omega)).trans (get_wvals _ d (by rw [H6.out]; omega))
  have c2 := (R6.out.cellAt a (by omega)).trans (get_wvals _ a (by rw [H6.out]; omega))
  have f1 : (W6).frozen? ⟨g, d, none⟩ = false := R6.out.frozenAt d
  have R' : Hid (∀ nq v, ((W6.drewN nq).setCell ⟨g, d, none⟩ v).ownsRow B 35 1 (.slice (some ⟨g, 0, none⟩) 16 cap) 16 ((wvals l6).set d v)) := Lib.hid fun nq v => (World.ownsRow.stored (show (W6.drewN nq).ownsRow B 35 1 (.slice (some ⟨g, 0, none⟩) 16 cap) 16 (wvals l6) from R6.out) d v).1
  have hR : ∀ w, Calls Tryd.prog 19 #[.int .u32 (l6.getD d 0#32).toNat, .int .i64 16] w fun e w' => e = .returned (.int .u32 ((l6.getD d 0#32).rotateLeft 16).toNat) ∧ ∃ n, w' = w.drewN n := fun w => rotate_any _ 16 (by omega) w
  have hx := u32_xor_bv ((l6.getD d 0#32).rotateLeft 16) (l6.getD a 0#32)
  generalize (l6.getD d 0#32).rotateLeft 16 ^^^ l6.getD a 0#32 = z6 at e7 hx
  generalize (l6.getD d 0#32).rotateLeft 16 = r6 at hR hx
  generalize l6.getD d 0#32 = x6 at hR c1
  generalize l6.getD a 0#32 = y6 at hx c2
  have HR := Lib.hid hR
  clear hR
  have EZ := Lib.hid e7
  clear e7
  refine wp_region_quiet_last (by kernel_rfl) (by kernel_rfl) _ rfl ?_
  simp only [List.dropLast_cons_cons, List.dropLast_singleton]
  repeat (quiet_step (first | (go_at_call 19; exact Calls.quiet_of (HR.out _))))
  refine wpQuiet_nil ?_
  intro _ hw'
  obtain ⟨nq, hw''⟩ := hw'
  subst hw''
  try rw [hx]
  go_wp2
  have R7 : Hid (((W6.drewN nq).setCell ⟨g, d, none⟩ (.int .u32 z6.toNat)).ownsRow B 35 1 (.slice (some ⟨g, 0, none⟩) 16 cap) 16 (wvals l7)) := Lib.hid (by rw [EZ.out, ← set_wvals]; exact R'.out nq _)
  have G7 : Hid (w.grownBy ((W6.drewN nq).setCell ⟨g, d, none⟩ (.int .u32 z6.toNat)) (some g)) := Lib.hid (Hgo.out _ G6.out _ _ _)
  generalize hW : (W6.drewN nq).setCell ⟨g, d, none⟩ (.int .u32 z6.toNat) = W7 at *
  clear hW
  clear c1 c2 f1 hx EZ R' R6 G6 HR
  obtain ⟨l8, e8⟩ : ∃ m, m = l7.set a (l7.getD a 0#32 - l7.getD b 0#32) := ⟨_, rfl⟩
  have E8 := Lib.hid e8
  have H8 : Hid (l8.length = 16) := Lib.hid (by rw [e8, List.length_set]; exact H7.out)
  have c1 := (R7.out.cellAt a (by omega)).trans (get_wvals _ a (by rw [H7.out]; omega))
  have c2 := (R7.out.cellAt b (by omega)).trans (get_wvals _ b (by rw [H7.out]; omega))
  have f1 : (W7).frozen? ⟨g, a, none⟩ = false := R7.out.frozenAt a
  have R' : Hid (∀ nq v, ((W7.drewN nq).setCell ⟨g, a, none⟩ v).ownsRow B 35 1 (.slice (some ⟨g, 0, none⟩) 16 cap) 16 ((wvals l7).set a v)) := Lib.hid fun nq v => (World.ownsRow.stored (show (W7.drewN nq).ownsRow B 35 1 (.slice (some ⟨g, 0, none⟩) 16 cap) 16 (wvals l7) from R7.out) a v).1
  have hx := u32_sub_wrap (l7.getD a 0#32) (l7.getD b 0#32)
  generalize l7.getD a 0#32 - l7.getD b 0#32 = z7 at e8 hx
  generalize l7.getD a 0#32 = x7 at hx c1
  generalize l7.getD b 0#32 = y7 at hx c2
  have EZ := Lib.hid e8
  clear e8
  refine wp_region_quiet_last (by kernel_rfl) (by kernel_rfl) _ rfl ?_
  simp only [List.dropLast_cons_cons, List.dropLast_singleton]
  repeat (quiet_step (fail))
  refine wpQuiet_nil ?_
  intro _ hw'
  obtain ⟨nq, hw''⟩ := hw'
  subst hw''
  try rw [hx]
  go_wp2
  have R8 : Hid (((W7.drewN nq).setCell ⟨g, a, none⟩ (.int .u32 z7.toNat)).ownsRow B 35 1 (.slice (some ⟨g, 0, none⟩) 16 cap) 16 (wvals l8)) := Lib.hid (by rw [EZ.out, ← set_wvals]; exact R'.out nq _)
  have G8 : Hid (w.grownBy ((W7.drewN nq).setCell ⟨g, a, none⟩ (.int .u32 z7.toNat)) (some g)) := Lib.hid (Hgo.out _ G7.out _ _ _)
  generalize hW : (W7.drewN nq).setCell ⟨g, a, none⟩ (.int .u32 z7.toNat) = W8 at *
  clear hW
  clear c1 c2 f1 hx EZ R' R7 G7
  go_end0
  refine ⟨rfl, G8.out, ?_⟩
  rw [unquarter_eq l a b c d H0.out ha hb hc hd hab hac had hbc hbd hcd l1 l2 l3 l4 l5 l6 l7 l8 E1.out E2.out E3.out E4.out E5.out E6.out E7.out E8.out]
  exact R8.out
end Go.Proofs.YtnooklfhpjfbmaaDoor
