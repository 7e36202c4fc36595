/- The contract of the closure that coordinate hands back. -/
import Derived.Test.YtnpkbjekodjcjaaDoorM
set_option linter.all false
namespace Go.Proofs.YtnpkbjekodjcjaaDoor
open Go.RowKit Go.Fen Hil
set_option linter.unusedVariables false
set_option maxHeartbeats 4000000

theorem CoM.below {w w' : World} {B : Nat} {lb : Array Value} {id ord : Int} {xs : List Int} (h : CoM w lb id ord xs) (hb : Below B w w') (hB : w.heap.size ≤ B) : CoM w' lb id ord xs := by
  obtain ⟨b1, b2, b3, a, n, c, e, c1, c2, c3, hn, hI⟩ := h
  exact ⟨b1, b2, b3, a, n, c, e, (hb.cell (p := ⟨b1, 0, none⟩) (Nat.lt_of_lt_of_le (block_lt_of_cell (a := ⟨b1, 0, none⟩) c1) hB)).trans c1, (hb.cell (p := ⟨b2, 0, none⟩) (Nat.lt_of_lt_of_le (block_lt_of_cell (a := ⟨b2, 0, none⟩) c2) hB)).trans c2,
    (hb.cell (p := ⟨b3, 0, none⟩) (Nat.lt_of_lt_of_le (block_lt_of_cell (a := ⟨b3, 0, none⟩) c3) hB)).trans c3, hn, hI.below hb hB⟩

theorem coord_any (a : Option Addr) (n c : Nat) (fs : List (Int × Int)) (id ord : Int) (xs : List Int) (lb : Array Value) (s : Nat) (w : World) (hR : RowM w (.slice a n c) fs) (en : n = fs.length) (hC : CoM w lb id ord xs) (hxs : xs.length ≤ 1000000)
    (hS : (numR fs id).2 = true → 0 < xs.length ∧ ∀ w, Calls Tryd.prog 15 #[.int .i64 (numR fs id).1, .int .i64 (mnU xs xs.length), .int .i64 (mxU xs xs.length), .int .i64 ord] w fun e w' => e = .returned (.int .u32 s) ∧ ∃ q, w' = w.drewN q)
    (h0 : (numR fs id).2 = false → s = 0) :
    Calls Tryd.prog 42 (#[.agg #[.slice a n c]] ++ lb) w fun e w' => e = .returned (.int .u32 s) ∧ Below w.heap.size w w' := by
  obtain ⟨gb, egb⟩ : ∃ g, g = w.heap.size := ⟨_, rfl⟩
  obtain ⟨W0, hW0⟩ : ∃ W, W = w.alloc (.cells #[.slice a n c] 76) := ⟨_, rfl⟩
  have hb : Below w.heap.size w W0 := by rw [hW0]; exact (Below.refl _ _).alloc (Nat.le_refl _) _
  have R0 : Row W0 gb 76 #[.slice a n c] := by rw [hW0]; exact Row.new' 76 _ egb
  have C0 := hC.below hb (Nat.le_refl _)
  have NUM := number_any a n c fs id W0 (hR.below hb (Nat.le_refl _)) en
  obtain ⟨b1, b2, b3, ax, nx, cx, rfl, c1, c2, c3, hnx, hI⟩ := C0
  show Calls Tryd.prog 42 #[.agg #[.slice a n c], .pointer (some ⟨b1, 0, none⟩), .pointer (some ⟨b2, 0, none⟩), .pointer (some ⟨b3, 0, none⟩)] w _
  obtain ⟨⟨x, ok⟩, hxo⟩ : ∃ t, t = numR fs id := ⟨_, rfl⟩
  rw [← hxo] at NUM hS h0
  simp only at NUM hS h0
  have q0 := R0.cell 0
  simp only [List.getElem?_toArray, List.getElem?_cons_zero] at q0
  have HNUM := Lib.hid NUM
  have HW0 := Lib.hid hW0
  have EGB := Lib.hid egb
  have HB := Lib.hid hb
  have HI := Lib.hid hI
  have HC2 := Lib.hid c2
  have HC3 := Lib.hid c3
  have HNX := Lib.hid hnx
  have HS := Lib.hid hS
  have H0 := Lib.hid h0
  clear NUM hW0 egb hb hI c2 c3 hnx hS h0 hxo hR hC R0 en
  cases ok with
  | false =>
    obtain rfl : s = 0 := H0.out rfl
    go_enter Tryd.func42, Tryd.ntmps42
    go_wp2_with (first | ((with_reducible show wpList _ _ _ (Oper.mk _ (Op.box _ _) _ _ _ _ :: _) _ _); (refine wpList_box_row rfl 76 (.tmp 0) rfl _ rfl gb EGB.out ?_; refine wpList_atE HW0.out ?_)))
    refine HNUM.out.mono ?_
    rintro e w2 ⟨rfl, b2'⟩
    have BB := Lib.hid b2'
    clear b2'
    go_wp2_with fail
    go_ret
    exact ⟨rfl, HB.out.trans (BB.out.mono HB.out.size)⟩
  | true =>
    obtain ⟨hp, hSc⟩ := HS.out rfl
    have MN := fun w h => min_any ax xs nx cx w HNX.out (by rw [HNX.out]; exact hp) (by rw [HNX.out]; exact hxs) h
    have MX := fun w h => max_any ax xs nx cx w HNX.out (by rw [HNX.out]; exact hp) (by rw [HNX.out]; exact hxs) h
    obtain ⟨mn, hmn⟩ : ∃ m, m = mnU xs xs.length := ⟨_, rfl⟩
    obtain ⟨mx, hmx⟩ : ∃ m, m = mxU xs xs.length := ⟨_, rfl⟩
    rw [← hmn, ← hmx] at hSc
    rw [show mnU xs nx = mn by rw [HNX.out, hmn]] at MN
    rw [show mxU xs nx = mx by rw [HNX.out, hmx]] at MX
    have HSC := Lib.hid hSc
    have HMN := Lib.hid MN
    have HMX := Lib.hid MX
    clear hSc MN MX hmn hmx hp
    go_enter Tryd.func42, Tryd.ntmps42
    go_wp2_with (first | ((with_reducible show wpList _ _ _ (Oper.mk _ (Op.box _ _) _ _ _ _ :: _) _ _); (refine wpList_box_row rfl 76 (.tmp 0) rfl _ rfl gb EGB.out ?_; refine wpList_atE HW0.out ?_)))
    refine HNUM.out.mono ?_
    rintro e w2 ⟨rfl, b2'⟩
    have BB := Lib.hid b2'
    have c2 := (b2'.cell (p := ⟨b2, 0, none⟩) (block_lt_of_cell (a := ⟨b2, 0, none⟩) HC2.out)).trans HC2.out
    have c3 := (b2'.cell (p := ⟨b3, 0, none⟩) (block_lt_of_cell (a := ⟨b3, 0, none⟩) HC3.out)).trans HC3.out
    have HIq := Lib.hid (fun q => (HI.out.below b2' (Nat.le_refl _)).below (below_drewN (Below.refl _ _) q) (Nat.le_refl _))
    clear b2'
    go_wp2_with fail
    go_quiet (first | (go_at_call 43; exact Calls.quiet_of_same (HMN.out _ (HIq.out _))) | (go_at_call 44; exact Calls.quiet_of_same (HMX.out _ (HIq.out _))) | (go_at_call 15; exact Calls.quiet_of (HSC.out _)))
    go_wp2_with fail
    go_ret
    exact ⟨rfl, HB.out.trans ((below_drewN BB.out _).mono HB.out.size)⟩
end Go.Proofs.YtnpkbjekodjcjaaDoor
