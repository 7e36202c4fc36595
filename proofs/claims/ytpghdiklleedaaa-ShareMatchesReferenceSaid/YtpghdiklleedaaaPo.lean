/- The contract of the reference's Poly. -/
import Derived.Test.YtpghdiklleedaaaAt
set_option linter.all false
namespace Go.Proofs.Ytpghdiklleedaaa
open Go.RowKit Go.Fen Gf
set_option maxHeartbeats 400000

theorem BufB.mono {B B1 : Nat} {v : Value} {l : List (BitVec 8)} {W0 W1 w : World} (h : BufB B1 v l W1 w) (hB : B ≤ B1) (hW : Below B W0 W1) : BufB B v l W0 w := by
  obtain ⟨⟨hl, ho⟩, hb, hs⟩ := h
  refine ⟨⟨hl, ?_⟩, hW.trans (hb.mono hB), Nat.le_trans hB hs⟩
  rcases ho with ho | ⟨g, cap, cur, hv, hbg, r⟩
  · exact .inl ho
  · exact .inr ⟨g, cap, cur, hv, Nat.le_trans hB hbg, r⟩
theorem wpList_atE {P : Program} {ops : Array Oper} {rest : List Oper} {a : Act} {Q : Exit → Act → World → Prop} {w w' : World} (e : w' = w) (h : wpList P ops Q rest a w') : wpList P ops Q rest a w := e ▸ h
theorem coefs_snoc (r : List (BitVec 8)) (f n : Nat) : coefs r f (n + 1) = coefs r f n ++ [r.getD (f + n) 0#8] := by
  simp [coefs, List.range_succ]

set_option maxHeartbeats 1000000 in
theorem poly_any (ar : Option Addr) (c : BitVec 8) (r : List (BitVec 8)) (lr cr need i : Nat) (h1 : 1 ≤ need) (h2 : need ≤ 255) (hi : i ≤ 1000000) (elr : lr = r.length) (hr : lr ≤ 1000000000) (w : World) (B0 : Bs w ar r) :
    Calls Try.prog 32 #[.int .u8 c.toNat, .slice ar lr cr, .agg #[.int .i64 need, .int .i64 i]] w fun e w' => ∃ v, e = .returned v ∧ BufB w.heap.size v (c :: coefs r (i * (need - 1)) (need - 1)) w w' := by
  obtain ⟨m, hm⟩ : ∃ m, m = need - 1 := ⟨_, rfl⟩
  obtain ⟨f, hf⟩ : ∃ f, f = i * m := ⟨_, rfl⟩
  have hf2 : f ≤ 254000000 := by rw [hf]; have := Nat.mul_le_mul hi (show m ≤ 254 by omega); omega
  have hfi : (i : Int) * ((need : Int) - 1) = (f : Int) := by rw [hf, show ((need : Int) - 1) = (m : Int) by omega]; simp
  rw [← hm, ← hf]
  obtain ⟨B, hB⟩ : ∃ B, B = w.heap.size := ⟨_, rfl⟩
  obtain ⟨W1, hW1⟩ : ∃ W, W = w.alloc (.cells #[.int .i64 need, .int .i64 i] 30) := ⟨_, rfl⟩
  have hrow : Row W1 B 30 #[.int .i64 need, .int .i64 i] := by rw [hW1]; exact Row.new' _ _ hB
  have hbel : Below B w W1 := by rw [hW1, hB]; exact (Below.refl _ _).alloc (Nat.le_refl _) _
  have hs1 : W1.heap.size = B + 1 := by rw [hW1, hB]; simp
  have hbuf0 : BufB (B + 1) (.slice (some ⟨B + 1, 0, none⟩) 1 1) (c :: coefs r f 0) W1 (W1.alloc (.cells #[.int .u8 c.toNat] 5)) := Buf.lit (Below.refl _ _) (Nat.le_of_eq hs1.symm) #[.int .u8 c.toNat] 1 rfl (by decide) (B + 1) hs1.symm
  have HB0 := Lib.hid B0
  have HR := Lib.hid hrow
  have HBel := Lib.hid hbel
  have HS1 := Lib.hid hs1
  have HBB := Lib.hid hB
  have HW1 := Lib.hid hW1
  have EL := Lib.hid elr
  have HM := Lib.hid hm
  clear B0 hrow hbel hs1 hB hW1 elr hf hm
  rw [← HBB.out]
  have nle : (need : Int) ≤ 255 := by omega
  have ile : (i : Int) ≤ 1000000 := by omega
  have fle : (f : Int) ≤ 254000000 := by omega
  go_enter Try.func32, Try.ntmps32
  go_wp2_with (first | ((with_reducible show wpList _ _ _ (Oper.mk _ (Op.box _ _) _ _ _ _ :: _) _ _); refine wpList_box_row rfl 30 (.tmp 2) rfl _ rfl B HBB.out ?_; refine wpList_atE HW1.out ?_))
  rw [HS1.out]
  obtain ⟨W2, hW2⟩ : ∃ W, W = W1.alloc (.cells #[.int .u8 c.toNat] 5) := ⟨_, rfl⟩
  rw [← hW2] at hbuf0 ⊢
  clear hW2
  go_loopw [7, 8] (fun v ij wr => ∃ t : Nat, t ≤ m ∧ ij = .int .i64 ((t : Int) + 1) ∧ BufB (B + 1) v (c :: coefs r f t) W1 wr) (fun _ ij _ => m + 1 - (intOf ij).toNat)
  case atStart => exact ⟨0, by omega, rfl, hbuf0⟩
  case round =>
    clear hbuf0
    obtain ⟨t, ht, rfl, hb⟩ := hrel
    have hrow := HR.out.below hb.2.1 (Nat.lt_succ_self _)
    have n0 := hrow.cell 0
    have i0 := hrow.cell 1
    simp only [List.getElem?_toArray, List.getElem?_cons_zero, List.getElem?_cons_succ] at n0 i0
    have Hb := Lib.hid hb
    have tm : (t : Int) ≤ 254 := by have := HM.out; omega
    have hlen : (c :: coefs r f t).length ≤ 1000000 := by have := HM.out; simp [coefs]; omega
    have HLEN := Lib.hid hlen
    by_cases htm : t < m
    · have ti : (t : Int) + 1 < (need : Int) := by have := HM.out; omega
      have HTM := Lib.hid htm
      have hsn := Lib.hid (coefs_snoc r f t)
      by_cases hin : f + t < lr
      · have hini : (f : Int) + (t : Int) < (lr : Int) := by omega
        obtain ⟨g, o, ea, kc⟩ : ∃ g o, ar = some ⟨g, o, none⟩ ∧ w.cell? ⟨g, o + (f + t), none⟩ = some (.int .u8 (r.getD (f + t) 0#8).toNat) := by
          rcases HB0.out with h | ⟨g, o, e, hc⟩
          · have := EL.out; rw [h] at this; simp at this; omega
          · exact ⟨g, o, e, hc (f + t) (by rw [← EL.out]; exact hin)⟩
        subst ea
        have hgB : g < B := by rw [HBB.out]; exact block_lt_of_cell (a := ⟨g, o + (f + t), none⟩) kc
        have kc1 := (HBel.out.cell (p := ⟨g, o + (f + t), none⟩) hgB).trans kc
        have kc' := (hb.2.1.cell (p := ⟨g, o + (f + t), none⟩) (Nat.lt_succ_of_lt hgB)).trans kc1
        generalize r.getD (f + t) 0#8 = y at *
        clear hb hrow hlen kc kc1 htm
        go_wp2_with (first | ((with_reducible show wpList _ _ _ (Oper.mk _ (Op.call _) _ _ _ _ :: _) _ _); refine wpList_pushB rfl (.tmp 31) (.tmp 36) rfl (B + 1) _ (c :: coefs r f t) rfl W1 wr _ y rfl rfl Hb.out HLEN.out (fun v' w' hv' hg => ?_)))
        go_roundw
        case rel => exact ⟨t + 1, HTM.out, by go_num, by rw [hsn.out]; exact hv'⟩
        case measure => have := HTM.out; simp [intOf] <;> omega
      · have hini : ¬ (f : Int) + (t : Int) < (lr : Int) := by omega
        have h0 : r.getD (f + t) 0#8 = 0#8 := by rw [List.getD, List.getElem?_eq_none (by have := EL.out; omega)]; rfl
        rw [h0] at hsn
        clear hb hrow hlen htm h0
        go_wp2_with (first | ((with_reducible show wpList _ _ _ (Oper.mk _ (Op.call _) _ _ _ _ :: _) _ _); refine wpList_pushB rfl (.tmp 38) (.tmp 39) rfl (B + 1) _ (c :: coefs r f t) rfl W1 wr _ 0#8 rfl rfl Hb.out HLEN.out (fun v' w' hv' hg => ?_)))
        go_roundw
        case rel => exact ⟨t + 1, HTM.out, by go_num, by rw [hsn.out]; exact hv'⟩
        case measure => have := HTM.out; simp [intOf] <;> omega
    · have et : t = m := by omega
      have ti : ¬ (t : Int) + 1 < (need : Int) := by have := HM.out; omega
      rw [et] at hb
      have Hb2 := Lib.hid (hb.mono (B := B) (Nat.le_succ _) HBel.out)
      clear hb hrow hlen htm et Hb
      go_wp2_with fail
      go_ret
      exact ⟨_, rfl, Hb2.out⟩
end Go.Proofs.Ytpghdiklleedaaa
