/- The contract of Cover. -/
import Derived.Test.YtnpkbjekodjcjaaDoorV
set_option linter.all false
namespace Go.Proofs.YtnpkbjekodjcjaaDoor
open Go.RowKit Go.Fen Hil
set_option linter.unusedVariables false
set_option maxHeartbeats 4000000

def CovOk (k : Int) (rc : Rect) : Prop := 1 ≤ k ∧ k ≤ 16 ∧ rc.x0 ≤ rc.x1 ∧ rc.y0 ≤ rc.y1 ∧ rc.x1 < 2 ^ k.toNat ∧ rc.y1 < 2 ^ k.toNat
/-- a rectangle as a value -/
def rcv (rc : Rect) : Value := .agg #[.int .u32 rc.x0, .int .u32 rc.y0, .int .u32 rc.x1, .int .u32 rc.y1]

theorem AccR.bel {V0 w : World} {gv : Nat} {v : Value} {L : List (Nat × Nat)} (h : AccR V0 gv v L w) {B : Nat} (hB : B ≤ gv) (hV : B ≤ V0.heap.size) : Below B V0 w :=
  ⟨h.2.2.os, h.2.2.tape, h.2.2.output, h.2.2.size, fun j hj => h.2.2.block j (Nat.lt_of_lt_of_le hj hV) (by intro e; injection e with e; omega)⟩
theorem rgs_of_own {w : World} {base : Nat} {v : Value} {L : List (Nat × Nat)} (h : w.ownsRow base 58 2 v L.length (rcells L)) : ∃ a c, v = .slice a L.length c ∧ RgsM w a L := by
  rcases h.2 with ⟨hv, h0⟩ | ⟨g, cap, cur, hv, hbg, hg, r⟩
  · exact ⟨none, 0, by rw [hv, h0], .inl ⟨rfl, h0⟩⟩
  · refine ⟨some ⟨g, 0, none⟩, cap, hv, .inr ⟨g, 0, rfl, (Array.getElem?_eq_some_iff.1 hg).1, fun i hi j x hj => ?_⟩⟩
    subst hv
    have j2 : j < 2 := by
      have := (List.getElem?_eq_some_iff.1 hj).1
      simpa [rcell] using this
    have c := h.cellAt (i * 2 + j) (by omega)
    rw [get_rcells L i j hi j2, hj] at c
    rw [Nat.zero_add]
    exact c

theorem cover_bad (k : Int) (rc : Rect) (w : World) (hn : ¬ CovOk k rc) : Calls Tryd.prog 22 #[.int .i64 k, rcv rc] w fun e w' => e = .returned (.tuple #[.slice none 0 0, .int .i64 1]) ∧ Below w.heap.size w w' := by
  obtain ⟨g, eg⟩ : ∃ g, g = w.heap.size := ⟨_, rfl⟩
  obtain ⟨x0, hx0⟩ : ∃ x, x = rc.x0 := ⟨_, rfl⟩
  obtain ⟨y0, hy0⟩ : ∃ x, x = rc.y0 := ⟨_, rfl⟩
  obtain ⟨x1, hx1⟩ : ∃ x, x = rc.x1 := ⟨_, rfl⟩
  obtain ⟨y1, hy1⟩ : ∃ x, x = rc.y1 := ⟨_, rfl⟩
  obtain ⟨W0, hW0⟩ : ∃ W, W = w.alloc (.cells #[.int .i64 k] 3) := ⟨_, rfl⟩
  obtain ⟨W1, hW1⟩ : ∃ W, W = W0.alloc (.cells #[.int .u32 x0, .int .u32 y0, .int .u32 x1, .int .u32 y1] 34) := ⟨_, rfl⟩
  have z0 : W0.heap.size = g + 1 := by rw [hW0, eg]; simp
  have z1 : W1.heap.size = g + 1 + 1 := by rw [hW1, World.size_alloc, z0]
  have hb : Below w.heap.size w W1 := by rw [hW1, hW0]; exact ((Below.refl _ _).alloc (Nat.le_refl _) _).alloc (by simp) _
  have R0 : Row W1 g 3 #[.int .i64 k] := by rw [hW1, hW0, eg]; exact (Row.new w 3 _).alloc _
  have R1 : Row W1 (g + 1) 34 #[.int .u32 x0, .int .u32 y0, .int .u32 x1, .int .u32 y1] := by rw [hW1]; exact Row.new' 34 _ z0.symm
  have q0 := R0.cell 0
  have q1 := R1.cell 0
  have q2 := R1.cell 1
  have q3 := R1.cell 2
  have q4 := R1.cell 3
  simp only [List.getElem?_toArray, List.getElem?_cons_zero, List.getElem?_cons_succ] at q0 q1 q2 q3 q4
  have RR := right_any k
  have ez : w.heap.size = g := eg.symm
  have HW0 := Lib.hid hW0
  have HW1 := Lib.hid hW1
  have HB := Lib.hid hb
  have HR0 := Lib.hid R0
  have HR1 := Lib.hid R1
  have EG := Lib.hid eg
  have Z0 := Lib.hid z0
  have Z1 := Lib.hid z1
  rw [rcv, ← hx0, ← hy0, ← hx1, ← hy1]
  unfold CovOk at hn
  rw [← hx0, ← hy0, ← hx1, ← hy1] at hn
  clear hx0 hy0 hx1 hy1 hW0 hW1 hb R0 R1 eg z1 z0
  by_cases hr : 1 ≤ k ∧ k ≤ 16
  · rw [decide_eq_true hr] at RR
    have HRR := Lib.hid RR
    obtain ⟨n, rfl⟩ : ∃ n : Nat, k = n := ⟨k.toNat, by omega⟩
    rw [Int.toNat_natCast] at hn
    have n16 : n ≤ 16 := by omega
    obtain ⟨s, hs⟩ : ∃ s, s = 2 ^ n := ⟨_, rfl⟩
    have s1 : s ≤ 65536 := by rw [hs]; exact pow_le16 n n16
    have t1 : (2 : Int) ^ n = (s : Int) := by rw [hs]; exact int_two_pow n
    rw [← hs] at hn
    clear hs RR
    have hn' : x1 < x0 ∨ y1 < y0 ∨ s ≤ x1 ∨ s ≤ y1 := by omega
    clear hn hr
    by_cases p0 : x1 < x0
    · skip
      have j0 : decide ((x1 : Int) < (x0 : Int)) = true := decide_eq_true (by omega)
      have n0 : decide (x1 < x0) = true := decide_eq_true (by omega)
      clear hn' p0
      go_enter Tryd.func22, Tryd.ntmps22
      go_wp2_with (first | ((with_reducible show wpList _ _ _ (Oper.mk _ (Op.box _ _) _ _ _ _ :: _) _ _); (refine wpList_box_row rfl 34 (.tmp 1) rfl _ rfl (g + 1) Z0.out.symm ?_; refine wpList_atE HW1.out ?_)) | ((with_reducible (refine wpList_atE HW0.out ?_))))
      go_quiet (first | (go_at_call 26; exact Calls.quiet_of_same (HRR.out _)))
      go_wp2_with fail
      go_ret2
      exact ⟨rfl, below_drewN HB.out _⟩
    by_cases p1 : y1 < y0
    · skip
      have j0 : decide ((x1 : Int) < (x0 : Int)) = false := decide_eq_false (by omega)
      have n0 : decide (x1 < x0) = false := decide_eq_false (by omega)
      have j1 : decide ((y1 : Int) < (y0 : Int)) = true := decide_eq_true (by omega)
      have n1 : decide (y1 < y0) = true := decide_eq_true (by omega)
      clear hn' p0 p1
      go_enter Tryd.func22, Tryd.ntmps22
      go_wp2_with (first | ((with_reducible show wpList _ _ _ (Oper.mk _ (Op.box _ _) _ _ _ _ :: _) _ _); (refine wpList_box_row rfl 34 (.tmp 1) rfl _ rfl (g + 1) Z0.out.symm ?_; refine wpList_atE HW1.out ?_)) | ((with_reducible (refine wpList_atE HW0.out ?_))))
      go_quiet (first | (go_at_call 26; exact Calls.quiet_of_same (HRR.out _)))
      go_wp2_with fail
      go_ret2
      exact ⟨rfl, below_drewN HB.out _⟩
    by_cases p2 : s ≤ x1
    · skip
      have j0 : decide ((x1 : Int) < (x0 : Int)) = false := decide_eq_false (by omega)
      have n0 : decide (x1 < x0) = false := decide_eq_false (by omega)
      have j1 : decide ((y1 : Int) < (y0 : Int)) = false := decide_eq_false (by omega)
      have n1 : decide (y1 < y0) = false := decide_eq_false (by omega)
      have j2 : decide ((s : Int) ≤ (x1 : Int)) = true := decide_eq_true (by omega)
      have n2 : decide (s ≤ x1) = true := decide_eq_true (by omega)
      clear hn' p0 p1 p2
      go_enter Tryd.func22, Tryd.ntmps22
      go_wp2_with (first | ((with_reducible show wpList _ _ _ (Oper.mk _ (Op.box _ _) _ _ _ _ :: _) _ _); (refine wpList_box_row rfl 34 (.tmp 1) rfl _ rfl (g + 1) Z0.out.symm ?_; refine wpList_atE HW1.out ?_)) | ((with_reducible (refine wpList_atE HW0.out ?_))))
      go_quiet (first | (go_at_call 26; exact Calls.quiet_of_same (HRR.out _)))
      go_wp2_with fail
      go_ret2
      exact ⟨rfl, below_drewN HB.out _⟩
    have p3 : s ≤ y1 := by omega
    have j0 : decide ((x1 : Int) < (x0 : Int)) = false := decide_eq_false (by omega)
    have n0 : decide (x1 < x0) = false := decide_eq_false (by omega)
    have j1 : decide ((y1 : Int) < (y0 : Int)) = false := decide_eq_false (by omega)
    have n1 : decide (y1 < y0) = false := decide_eq_false (by omega)
    have j2 : decide ((s : Int) ≤ (x1 : Int)) = false := decide_eq_false (by omega)
    have n2 : decide (s ≤ x1) = false := decide_eq_false (by omega)
    have j3 : decide ((s : Int) ≤ (y1 : Int)) = true := decide_eq_true (by omega)
    have n3 : decide (s ≤ y1) = true := decide_eq_true (by omega)
    clear hn' p0 p1 p2 p3
    go_enter Tryd.func22, Tryd.ntmps22
    go_wp2_with (first | ((with_reducible show wpList _ _ _ (Oper.mk _ (Op.box _ _) _ _ _ _ :: _) _ _); (refine wpList_box_row rfl 34 (.tmp 1) rfl _ rfl (g + 1) Z0.out.symm ?_; refine wpList_atE HW1.out ?_)) | ((with_reducible (refine wpList_atE HW0.out ?_))))
    go_quiet (first | (go_at_call 26; exact Calls.quiet_of_same (HRR.out _)))
    go_wp2_with fail
    go_ret2
    exact ⟨rfl, below_drewN HB.out _⟩
  · rw [decide_eq_false hr] at RR
    have HRR := Lib.hid RR
    clear hn hr RR
    go_enter Tryd.func22, Tryd.ntmps22
    go_wp2_with (first | ((with_reducible show wpList _ _ _ (Oper.mk _ (Op.box _ _) _ _ _ _ :: _) _ _); (refine wpList_box_row rfl 34 (.tmp 1) rfl _ rfl (g + 1) Z0.out.symm ?_; refine wpList_atE HW1.out ?_)) | ((with_reducible (refine wpList_atE HW0.out ?_))))
    go_quiet (first | (go_at_call 26; exact Calls.quiet_of_same (HRR.out _)))
    go_wp2_with fail
    go_ret2
    exact ⟨rfl, below_drewN HB.out _⟩

theorem cover_any (k : Int) (rc : Rect) (w : World) (hn : CovOk k rc) (hT : Tab w) : Calls Tryd.prog 22 #[.int .i64 k, rcv rc] w fun e w' => ∃ a c, e = .returned (.tuple #[.slice a (cov k.toNat rc).length c, .int .i64 0]) ∧ RgsM w' a (cov k.toNat rc) ∧ Below w.heap.size w w' := by
  obtain ⟨g, eg⟩ : ∃ g, g = w.heap.size := ⟨_, rfl⟩
  obtain ⟨x0, hx0⟩ : ∃ x, x = rc.x0 := ⟨_, rfl⟩
  obtain ⟨y0, hy0⟩ : ∃ x, x = rc.y0 := ⟨_, rfl⟩
  obtain ⟨x1, hx1⟩ : ∃ x, x = rc.x1 := ⟨_, rfl⟩
  obtain ⟨y1, hy1⟩ : ∃ x, x = rc.y1 := ⟨_, rfl⟩
  obtain ⟨W0, hW0⟩ : ∃ W, W = w.alloc (.cells #[.int .i64 k] 3) := ⟨_, rfl⟩
  obtain ⟨W1, hW1⟩ : ∃ W, W = W0.alloc (.cells #[.int .u32 x0, .int .u32 y0, .int .u32 x1, .int .u32 y1] 34) := ⟨_, rfl⟩
  have z0 : W0.heap.size = g + 1 := by rw [hW0, eg]; simp
  have z1 : W1.heap.size = g + 1 + 1 := by rw [hW1, World.size_alloc, z0]
  have hb : Below w.heap.size w W1 := by rw [hW1, hW0]; exact ((Below.refl _ _).alloc (Nat.le_refl _) _).alloc (by simp) _
  have R0 : Row W1 g 3 #[.int .i64 k] := by rw [hW1, hW0, eg]; exact (Row.new w 3 _).alloc _
  have R1 : Row W1 (g + 1) 34 #[.int .u32 x0, .int .u32 y0, .int .u32 x1, .int .u32 y1] := by rw [hW1]; exact Row.new' 34 _ z0.symm
  have q0 := R0.cell 0
  have q1 := R1.cell 0
  have q2 := R1.cell 1
  have q3 := R1.cell 2
  have q4 := R1.cell 3
  simp only [List.getElem?_toArray, List.getElem?_cons_zero, List.getElem?_cons_succ] at q0 q1 q2 q3 q4
  have RR := right_any k
  have ez : w.heap.size = g := eg.symm
  have HW0 := Lib.hid hW0
  have HW1 := Lib.hid hW1
  have HB := Lib.hid hb
  have HR0 := Lib.hid R0
  have HR1 := Lib.hid R1
  have EG := Lib.hid eg
  have Z0 := Lib.hid z0
  have Z1 := Lib.hid z1
  rw [rcv, ← hx0, ← hy0, ← hx1, ← hy1]
  unfold CovOk at hn
  have HT := Lib.hid hT
  have HX := Lib.hid (And.intro hx0 (And.intro hy0 (And.intro hx1 hy1)))
  rw [← hx0, ← hy0, ← hx1, ← hy1] at hn
  clear hx0 hy0 hx1 hy1 hW0 hW1 hb R0 R1 eg z1 z0 hT
  rw [decide_eq_true (by omega)] at RR
  have HRR := Lib.hid RR
  obtain ⟨n, rfl⟩ : ∃ n : Nat, k = n := ⟨k.toNat, by omega⟩
  rw [Int.toNat_natCast] at hn ⊢
  have n16 : n ≤ 16 := by omega
  have n1 : 1 ≤ n := by omega
  obtain ⟨s, hs⟩ : ∃ s, s = 2 ^ n := ⟨_, rfl⟩
  have s1 : s ≤ 65536 := by rw [hs]; exact pow_le16 n n16
  have t1 : (2 : Int) ^ n = (s : Int) := by rw [hs]; exact int_two_pow n
  rw [← hs] at hn
  clear hs RR
  have j0 : decide ((x1 : Int) < (x0 : Int)) = false := decide_eq_false (by omega)
  have n0 : decide (x1 < x0) = false := decide_eq_false (by omega)
  have j1 : decide ((y1 : Int) < (y0 : Int)) = false := decide_eq_false (by omega)
  have n1 : decide (y1 < y0) = false := decide_eq_false (by omega)
  have j2 : decide ((s : Int) ≤ (x1 : Int)) = false := decide_eq_false (by omega)
  have n2 : decide (s ≤ x1) = false := decide_eq_false (by omega)
  have j3 : decide ((s : Int) ≤ (y1 : Int)) = false := decide_eq_false (by omega)
  have n3 : decide (s ≤ y1) = false := decide_eq_false (by omega)
  have HN := Lib.hid hn
  clear hn
  go_enter Tryd.func22, Tryd.ntmps22
  go_wp2_with (first | ((with_reducible show wpList _ _ _ (Oper.mk _ (Op.box _ _) _ _ _ _ :: _) _ _); (refine wpList_box_row rfl 34 (.tmp 1) rfl _ rfl (g + 1) Z0.out.symm ?_; refine wpList_atE HW1.out ?_)) | ((with_reducible (refine wpList_atE HW0.out ?_))))
  go_quiet (first | (go_at_call 26; exact Calls.quiet_of_same (HRR.out _)))
  obtain ⟨Wd, hWd⟩ : ∃ W, W = W1.drewN nq := ⟨_, rfl⟩
  obtain ⟨W2, hW2⟩ : ∃ W, W = Wd.alloc (.cells #[.slice none 0 0] 54) := ⟨_, rfl⟩
  obtain ⟨W3, hW3⟩ : ∃ W, W = W2.alloc (.cells #[.nilFunc] 88) := ⟨_, rfl⟩
  obtain ⟨gO, hgO⟩ : ∃ x, x = g + 1 + 1 := ⟨_, rfl⟩
  obtain ⟨gV, hgV⟩ : ∃ x, x = gO + 1 := ⟨_, rfl⟩
  have zd : Wd.heap.size = gO := by rw [hWd, hgO]; exact Z1.out
  have z2 : W2.heap.size = gV := by rw [hW2, hgV, World.size_alloc, zd]
  have z3 : W3.heap.size = gV + 1 := by rw [hW3, World.size_alloc, z2]
  obtain ⟨F, hF⟩ : ∃ F, F = Value.func (.func 37) #[] #[.pointer (some ⟨g, 0, none⟩), .pointer (some ⟨g + 1, 0, none⟩), .pointer (some ⟨gV, 0, none⟩), .pointer (some ⟨gO, 0, none⟩)] := ⟨_, rfl⟩
  obtain ⟨V0, hV0⟩ : ∃ W, W = W3.setCell ⟨gV, 0, none⟩ (.func (.func 37) #[] #[.pointer (some ⟨g, 0, none⟩), .pointer (some ⟨g + 1, 0, none⟩), .pointer (some ⟨gV, 0, none⟩), .pointer (some ⟨gO, 0, none⟩)]) := ⟨_, rfl⟩
  have rV : Row W3 gV 88 #[.nilFunc] := by rw [hW3]; exact Row.new' 88 _ z2.symm
  have rO : Row W3 gO 54 #[.slice none 0 0] := by rw [hW3, hW2]; exact (Row.new' 54 _ zd.symm).alloc _
  have b3 : Below w.heap.size w W3 := by
    rw [hW3, hW2, hWd]
    exact ((below_drewN HB.out nq).alloc (by have := Z1.out; simp only [World.heap_drewN]; omega) _).alloc (by rw [← hWd, ← hW2]; omega) _
  have r0 : Row W3 g 3 #[.int .i64 n] := by rw [hW3, hW2, hWd]; exact ((HR0.out.drewN nq).alloc _).alloc _
  have r1 : Row W3 (g + 1) 34 #[.int .u32 x0, .int .u32 y0, .int .u32 x1, .int .u32 y1] := by rw [hW3, hW2, hWd]; exact ((HR1.out.drewN nq).alloc _).alloc _
  have cV := rV.cell 0
  have fV := rV.frozen 0
  have rV' := rV.set 0 (.func (.func 37) #[] #[.pointer (some ⟨g, 0, none⟩), .pointer (some ⟨g + 1, 0, none⟩), .pointer (some ⟨gV, 0, none⟩), .pointer (some ⟨gO, 0, none⟩)])
  have rO' := rO.setOther (a := ⟨gV, 0, none⟩) (by show gO ≠ gV; omega) (.func (.func 37) #[] #[.pointer (some ⟨g, 0, none⟩), .pointer (some ⟨g + 1, 0, none⟩), .pointer (some ⟨gV, 0, none⟩), .pointer (some ⟨gO, 0, none⟩)])
  have r0' := r0.setOther (a := ⟨gV, 0, none⟩) (by show g ≠ gV; omega) (.func (.func 37) #[] #[.pointer (some ⟨g, 0, none⟩), .pointer (some ⟨g + 1, 0, none⟩), .pointer (some ⟨gV, 0, none⟩), .pointer (some ⟨gO, 0, none⟩)])
  have r1' := r1.setOther (a := ⟨gV, 0, none⟩) (by show g + 1 ≠ gV; omega) (.func (.func 37) #[] #[.pointer (some ⟨g, 0, none⟩), .pointer (some ⟨g + 1, 0, none⟩), .pointer (some ⟨gV, 0, none⟩), .pointer (some ⟨gO, 0, none⟩)])
  have b4 := b3.setCell (p := ⟨gV, 0, none⟩) (by show w.heap.size ≤ gV; omega) (.func (.func 37) #[] #[.pointer (some ⟨g, 0, none⟩), .pointer (some ⟨g + 1, 0, none⟩), .pointer (some ⟨gV, 0, none⟩), .pointer (some ⟨gO, 0, none⟩)])
  have z4 : (W3.setCell ⟨gV, 0, none⟩ (.func (.func 37) #[] #[.pointer (some ⟨g, 0, none⟩), .pointer (some ⟨g + 1, 0, none⟩), .pointer (some ⟨gV, 0, none⟩), .pointer (some ⟨gO, 0, none⟩)])).heap.size = gV + 1 := by rw [World.size_setCell, z3]
  rw [← hV0] at rV' rO' r0' r1' b4 z4
  have l0 : V0.cell? ⟨gV, 0, none⟩ = some (.func (.func 37) #[] #[.pointer (some ⟨g, 0, none⟩), .pointer (some ⟨g + 1, 0, none⟩), .pointer (some ⟨gV, 0, none⟩), .pointer (some ⟨gO, 0, none⟩)]) := rV'.cell 0
  have l1 := r0'.cell 0
  have l2 := rO'.cell 0
  have m0 := r1'.cell 0
  have m1 := r1'.cell 1
  have m2 := r1'.cell 2
  have m3 := r1'.cell 3
  simp only [List.getElem?_toArray, List.getElem?_cons_zero, List.getElem?_cons_succ] at cV l1 l2 m0 m1 m2 m3
  have ST : (store ⟨gV, 0, none⟩ (.func (.func 37) #[] #[.pointer (some ⟨g, 0, none⟩), .pointer (some ⟨g + 1, 0, none⟩), .pointer (some ⟨gV, 0, none⟩), .pointer (some ⟨gO, 0, none⟩)])).run Tryd.prog W3 = .ok () V0 := by rw [run_store _ _ _ _ _ rfl, cV, hV0]; simp only [fV]; rfl
  have hn := HN.out
  obtain ⟨ex0, ey0, ex1, ey1⟩ := HX.out
  have BS : Base V0 rc n gO gV g (g + 1) := ⟨HT.out.below b4 (Nat.le_refl _), by omega, by omega, l1, by rw [← ex0]; exact m0, by rw [← ey0]; exact m1, by rw [← ex1]; exact m2, by rw [← ey1]; exact m3, l0, by omega, by omega, by omega, by omega, by omega, by omega⟩
  have A0 : AccR V0 gO (.slice none 0 0) [] V0 := ⟨World.ownsRow_nil _ _ _ _, rO', grown_refl _ _⟩
  have CALL := visit_any V0 rc n gO gV g (g + 1) BS n 0 [] (.slice none 0 0) V0 (Nat.le_refl _) (by omega) (Nat.le_refl _) (by simp) A0
  rw [cov_visit] at CALL
  have HC := Lib.hid CALL
  have HWd := Lib.hid hWd
  have HW2 := Lib.hid hW2
  have HW3 := Lib.hid hW3
  have HV0 := Lib.hid hV0
  have HB4 := Lib.hid b4
  have Z4 := Lib.hid z4
  have HGO := Lib.hid (show w.heap.size ≤ gO by omega)
  have HGV := Lib.hid (show gO ≤ gV + 1 by omega)
  clear CALL A0 BS hWd hW2 hW3 hV0 hF F hn ex0 ey0 ex1 ey1 m0 m1 m2 m3 l2 b3 b4 rV rO r0 r1 rV' rO' r0' r1' q0 q1 q2 q3 q4 HN j0 n0 j1 n1 j2 n2 j3 n3 z3 z4 HX hgO hgV
  go_wp2_with (first | ((with_reducible (first | (refine wpList_atE HWd.out ?_) | (refine wpList_atE HW2.out ?_) | (refine wpList_atE HW3.out ?_)))))
  refine HC.out.mono ?_
  rintro e w9 ⟨rfl, v', hA⟩
  have u0 := hA.2.1.cell 0
  simp only [List.getElem?_toArray, List.getElem?_cons_zero] at u0
  obtain ⟨a9, c9, ev9, hRM⟩ := rgs_of_own hA.1
  subst ev9
  have b9 := Lib.hid (HB4.out.trans (hA.bel (B := w.heap.size) HGO.out (by rw [Z4.out]; exact Nat.le_trans HGO.out HGV.out)))
  have HRM := Lib.hid hRM
  clear hA hRM
  go_wp2_with fail
  go_ret2
  exact ⟨a9, c9, rfl, HRM.out, b9.out⟩
end Go.Proofs.YtnpkbjekodjcjaaDoor
