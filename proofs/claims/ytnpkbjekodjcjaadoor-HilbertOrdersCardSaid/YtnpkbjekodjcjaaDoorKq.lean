/- The contract of the reference's Keys. -/
import Derived.Test.YtnpkbjekodjcjaaDoorCq
set_option linter.all false
namespace Go.Proofs.YtnpkbjekodjcjaaDoor
open Go.RowKit Go.Fen Hil
set_option linter.unusedVariables false
set_option maxHeartbeats 4000000

/-- a slice of numbers of 64 bits lies in memory -/
def W64M (w : World) (a : Option Addr) (f : Nat → Nat) (n : Nat) : Prop := (a = none ∧ n = 0) ∨ ∃ g o, a = some ⟨g, o, none⟩ ∧ g < w.heap.size ∧ ∀ i, i < n → w.cell? ⟨g, o + i, none⟩ = some (.int .u64 (f i))
theorem W64M.below {w w' : World} {B : Nat} {a : Option Addr} {f : Nat → Nat} {n : Nat} (h : W64M w a f n) (hb : Below B w w') (hB : w.heap.size ≤ B) : W64M w' a f n := by
  rcases h with h | ⟨g, o, ea, hg, hc⟩
  · exact .inl h
  · exact .inr ⟨g, o, ea, Nat.lt_of_lt_of_le hg hb.size, fun i hi => (hb.cell (p := ⟨g, o + i, none⟩) (Nat.lt_of_lt_of_le hg hB)).trans (hc i hi)⟩
def vals64 (f : Nat → Nat) (n : Nat) : List Value := (List.range n).map fun i => .int .u64 (f i)
theorem vals64_succ (f : Nat → Nat) (n : Nat) : vals64 f n ++ [.int .u64 (f n)] = vals64 f (n + 1) := by simp [vals64, List.range_succ]
theorem w64_of_own {w : World} {base n : Nat} {e : TypeId} {v : Value} {f : Nat → Nat} (h : w.ownsRow base e 1 v n (vals64 f n)) : ∃ a c, v = .slice a n c ∧ W64M w a f n := by
  rcases h.2 with ⟨hv, h0⟩ | ⟨g, cap, cur, hv, hbg, hg, r⟩
  · subst h0; exact ⟨none, 0, hv, .inl ⟨rfl, rfl⟩⟩
  · refine ⟨some ⟨g, 0, none⟩, cap, hv, .inr ⟨g, 0, rfl, (Array.getElem?_eq_some_iff.1 hg).1, fun i hi => ?_⟩⟩
    subst hv
    have := h.cellAt i (by omega)
    rw [Nat.zero_add, this]
    simp [vals64, hi]

set_option maxRecDepth 20000 in
theorem rkeys_any (a : Option Addr) (L : List (List (Int × Int))) (n c k : Nat) (id0 id1 : Int) (w : World) (en : n = L.length) (hn : n ≤ 1000000) (hM : RowsM w a L) (k1 : 1 ≤ k) (k2 : k ≤ 16) (hB0 : ∀ i, i < n → B64 (numR (L.getD i []) id0).1) (hB1 : ∀ i, i < n → B64 (numR (L.getD i []) id1).1) :
    Calls Tryd.prog 21 #[.slice a n c, .agg #[.int .i64 id0, .int .i64 id1], .int .i64 k] w fun e w' => ∃ a' c', e = .returned (.slice a' n c') ∧ W64M w' a' (keyR L id0 id1 k n) n ∧ Below w.heap.size w w' := by
  obtain ⟨g, eg⟩ : ∃ g, g = w.heap.size := ⟨_, rfl⟩
  obtain ⟨W0, hW0⟩ : ∃ W, W = w.alloc (.cells #[.int .i64 id0, .int .i64 id1] 45) := ⟨_, rfl⟩
  have hb : Below w.heap.size w W0 := by rw [hW0]; exact (Below.refl _ _).alloc (Nat.le_refl _) _
  have R0 : Row W0 g 45 #[.int .i64 id0, .int .i64 id1] := by rw [hW0]; exact Row.new' 45 _ eg
  have C0 := Lib.hid (fun W (h : Below w.heap.size w W) => coords_any a L n c k id0 W en hn (hM.below h (Nat.le_refl _)) k1 k2 hB0)
  have C1 := Lib.hid (fun W (h : Below w.heap.size w W) => coords_any a L n c k id1 W en hn (hM.below h (Nat.le_refl _)) k1 k2 hB1)
  have q0 := R0.cell 0
  have q1 := R0.cell 1
  simp only [List.getElem?_toArray, List.getElem?_cons_zero, List.getElem?_cons_succ] at q0 q1
  have RI0 := fun i W => rIndex_any k (coordR L id0 k n i) (coordR L id1 k n i) W
  have RI := Lib.hid (fun i W => (by
    have := RI0 i W
    rw [show indexR k (coordR L id0 k n i) (coordR L id1 k n i) = (keyR L id0 id1 k n i, 0) by
      have h0 := coordR_lt L id0 k n i
      have h1 := coordR_lt L id1 k n i
      rw [indexR, if_neg (by rw [Int.toNat_natCast]; omega), Int.toNat_natCast]; rfl] at this
    exact this : Calls Tryd.prog 12 #[.int .i64 k, .int .u32 (coordR L id0 k n i), .int .u32 (coordR L id1 k n i)] W fun e w' => e = .returned (.tuple #[.int .u64 (keyR L id0 id1 k n i), .int .i64 0]) ∧ w' = W))
  have ez : w.heap.size = g := eg.symm
  have HW0 := Lib.hid hW0
  have EG := Lib.hid eg
  have HB := Lib.hid hb
  have HR0 := Lib.hid R0
  clear hW0 eg hb R0 RI0 hM en hB0 hB1
  go_enter Tryd.func21, Tryd.ntmps21
  go_wp2_with (first | ((with_reducible show wpList _ _ _ (Oper.mk _ (Op.box _ _) _ _ _ _ :: _) _ _); (refine wpList_box_row rfl 45 (.tmp 1) rfl _ rfl g EG.out ?_; refine wpList_atE HW0.out ?_)))
  refine (C0.out _ HB.out).mono ?_
  rintro e W1 ⟨ax, cx, rfl, mx, b1⟩
  have HB1 := Lib.hid (bel_tr HB.out b1)
  have R1 := HR0.out.below b1 HR0.out.lt
  have p1 := R1.cell 1
  simp only [List.getElem?_toArray, List.getElem?_cons_zero, List.getElem?_cons_succ] at p1
  have MX := Lib.hid mx
  clear q0 q1 b1 R1 mx
  go_wp2_with fail
  refine (C1.out _ HB1.out).mono ?_
  rintro e W2 ⟨ay, cy, rfl, my, b2⟩
  have HB2 := Lib.hid (bel_tr HB1.out b2)
  have MX2 := Lib.hid (MX.out.below b2 (Nat.le_refl _))
  have MY := Lib.hid my
  obtain ⟨B, hB⟩ : ∃ B, B = W2.heap.size := ⟨_, rfl⟩
  obtain ⟨W3, hW3⟩ : ∃ W, W = W2.alloc (.cells #[] 24) := ⟨_, rfl⟩
  have B0 : Buf B 24 (.slice (some ⟨B, 0, none⟩) 0 0) 0 (vals64 (keyR L id0 id1 k n) 0) W2 W3 := by
    rw [hW3]
    exact Buf.lit (Below.refl _ _) (by rw [hB]; exact Nat.le_refl _) #[] 0 rfl (by decide) B hB
  have HB0 := Lib.hid B0
  have HW3 := Lib.hid hW3
  have HBB := Lib.hid hB
  have ez2 : W2.heap.size = B := hB.symm
  clear p1 b2 my B0 hW3 hB
  go_wp2_with (first | ((with_reducible (refine wpList_atE HW3.out ?_))))
  rw [← HW3.out]
  go_loopw [9, 10, 11, 12] (fun v iv _ _ wr => ∃ i : Nat, i ≤ n ∧ iv = .int .i64 i ∧ Buf B 24 v i (vals64 (keyR L id0 id1 k n) i) W2 wr) (fun _ iv _ _ _ => n - (intOf iv).toNat)
  case atStart => exact ⟨0, Nat.zero_le _, rfl, HB0.out⟩
  case round =>
    obtain ⟨i, hi, rfl, hbuf⟩ := hrel
    have HBUF := Lib.hid hbuf
    by_cases hin : i < n
    · have ii : (i : Int) < (n : Int) := by omega
      obtain ⟨gx, ox, rfl, hgx, hcx⟩ : ∃ g o, ax = some ⟨g, o, none⟩ ∧ g < W2.heap.size ∧ ∀ i, i < n → W2.cell? ⟨g, o + i, none⟩ = some (.int .u32 (coordR L id0 k n i)) := by
        rcases MX2.out with ⟨_, h⟩ | h
        · omega
        · exact h
      obtain ⟨gy, oy, rfl, hgy, hcy⟩ : ∃ g o, ay = some ⟨g, o, none⟩ ∧ g < W2.heap.size ∧ ∀ i, i < n → W2.cell? ⟨g, o + i, none⟩ = some (.int .u32 (coordR L id1 k n i)) := by
        rcases MY.out with ⟨_, h⟩ | h
        · omega
        · exact h
      have cx' := (hbuf.2.1.cell (p := ⟨gx, ox + i, none⟩) (by show gx < B; omega)).trans (hcx i hin)
      have cy' := (hbuf.2.1.cell (p := ⟨gy, oy + i, none⟩) (by show gy < B; omega)).trans (hcy i hin)
      have R := RI.out i
      obtain ⟨u, hu⟩ : ∃ u, u = coordR L id0 k n i := ⟨_, rfl⟩
      obtain ⟨v', hv⟩ : ∃ u, u = coordR L id1 k n i := ⟨_, rfl⟩
      obtain ⟨ky, hky⟩ : ∃ u, u = keyR L id0 id1 k n i := ⟨_, rfl⟩
      rw [← hu] at cx' R
      rw [← hv] at cy' R
      rw [← hky] at R
      have HRI := Lib.hid R
      have HKY := Lib.hid hky
      have HI := Lib.hid hin
      clear R hu hv hky hin hi hbuf hcx hcy
      go_wp2_with fail
      go_quiet (first | (go_at_call 12; exact Calls.quiet_of_same (HRI.out _)))
      have HBU := Lib.hid (HBUF.out.drewN nq)
      go_wp2_with (first | ((with_reducible show wpList _ _ _ (Oper.mk _ (Op.call _) _ _ _ _ :: _) _ _); (refine wpList_push rfl (.tmp 43) (.tmp 45) 50 rfl B 24 (.int .u64 0) 8 Tryd.underlying50 Tryd.info24 rfl _ i (vals64 (keyR L id0 id1 k n) i) rfl W2 (wr.drewN nq) _ (.int .u64 ky) rfl rfl HBU.out rfl (by unfold maxLen; omega) (by omega) (fun v' w' hv' _ => ?_); have HV := Lib.hid hv'; clear hv')))
      go_roundw
      case rel => exact ⟨i + 1, HI.out, by go_num, by rw [← vals64_succ, ← HKY.out]; exact HV.out⟩
      case measure => have := HI.out; simp [intOf] <;> omega
    · obtain rfl : i = n := by omega
      have ii : ¬ (i : Int) < (i : Int) := by omega
      obtain ⟨a', c', ev, hW⟩ := w64_of_own hbuf.1
      have HW := Lib.hid hW
      have HBL := Lib.hid (HB2.out.trans (hbuf.2.1.mono (by rw [← ez2]; exact HB2.out.size)))
      clear hin hi hW hbuf HBUF
      subst ev
      go_wp2_with fail
      go_ret
      first | exact ⟨a', ⟨c', rfl⟩, HW.out, HBL.out⟩ | exact ⟨a', ⟨c', rfl⟩, HW.out, by have h := HBL.out; rw [ez] at h; exact h⟩
end Go.Proofs.YtnpkbjekodjcjaaDoor
