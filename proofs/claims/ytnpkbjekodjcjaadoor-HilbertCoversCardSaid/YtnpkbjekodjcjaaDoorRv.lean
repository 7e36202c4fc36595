/- The contracts of the reference's Inside and Cover. -/
import Derived.Test.YtnpkbjekodjcjaaDoorW
set_option linter.all false
namespace Go.Proofs.YtnpkbjekodjcjaaDoor
open Go.RowKit Go.Fen Hil
set_option linter.unusedVariables false
set_option maxHeartbeats 4000000

theorem Tryd.n34 : (Tryd.prog.info? 34).map (·.size) = some (#[Value.int .u32 0, .int .u32 0, .int .u32 0, .int .u32 0] : Array Value).size := by kernel_rfl
theorem inside_any (x y : Nat) (rc : Rect) (w : World) : Calls Tryd.prog 25 #[.int .u32 x, .int .u32 y, rcv rc] w fun e w' => e = .returned (.bool (rc.has (x, y))) ∧ Below w.heap.size w w' := by
  obtain ⟨g, eg⟩ : ∃ g, g = w.heap.size := ⟨_, rfl⟩
  obtain ⟨x0, hx0⟩ : ∃ x, x = rc.x0 := ⟨_, rfl⟩
  obtain ⟨y0, hy0⟩ : ∃ x, x = rc.y0 := ⟨_, rfl⟩
  obtain ⟨x1, hx1⟩ : ∃ x, x = rc.x1 := ⟨_, rfl⟩
  obtain ⟨y1, hy1⟩ : ∃ x, x = rc.y1 := ⟨_, rfl⟩
  obtain ⟨W0, hW0⟩ : ∃ W, W = w.alloc (.cells #[.int .u32 x0, .int .u32 y0, .int .u32 x1, .int .u32 y1] 34) := ⟨_, rfl⟩
  have hb : Below w.heap.size w W0 := by rw [hW0]; exact (Below.refl _ _).alloc (Nat.le_refl _) _
  have R1 : Row W0 g 34 #[.int .u32 x0, .int .u32 y0, .int .u32 x1, .int .u32 y1] := by rw [hW0]; exact Row.new' 34 _ eg
  have q1 := R1.cell 0
  have q2 := R1.cell 1
  have q3 := R1.cell 2
  have q4 := R1.cell 3
  simp only [List.getElem?_toArray, List.getElem?_cons_zero, List.getElem?_cons_succ] at q1 q2 q3 q4
  have ez : w.heap.size = g := eg.symm
  have HW0 := Lib.hid hW0
  have HB := Lib.hid hb
  have EG := Lib.hid eg
  obtain ⟨bb, hbb⟩ : ∃ b, b = rc.has (x, y) := ⟨_, rfl⟩
  rw [rcv, ← hx0, ← hy0, ← hx1, ← hy1, ← hbb]
  have hb2 : bb = decide (x0 ≤ x ∧ x ≤ x1 ∧ y0 ≤ y ∧ y ≤ y1) := by rw [hbb, Rect.has, hx0, hx1, hy0, hy1]
  clear hx0 hy0 hx1 hy1 hW0 hb R1 eg hbb
  by_cases p0 : x0 ≤ x
  rotate_left
  · obtain rfl : bb = false := by rw [hb2]; exact decide_eq_false (by omega)
    have i0 : ¬ (x0 : Int) ≤ (x : Int) := by omega
    have j0 : decide ((x0 : Int) ≤ (x : Int)) = false := decide_eq_false i0
    have n0 : decide (x0 ≤ x) = false := decide_eq_false p0
    clear hb2 p0
    go_enter Tryd.func25, Tryd.ntmps25
    go_wp2_with (first | ((with_reducible show wpList _ _ _ (Oper.mk _ (Op.box _ _) _ _ _ _ :: _) _ _); (refine wpList_box_row rfl 34 (.tmp 2) rfl _ rfl g EG.out ?_; refine wpList_atE HW0.out ?_)))
    go_ret
    exact ⟨rfl, by first | exact HB.out | (rw [EG.out]; exact HB.out)⟩
  by_cases p1 : x ≤ x1
  rotate_left
  · obtain rfl : bb = false := by rw [hb2]; exact decide_eq_false (by omega)
    have i0 : (x0 : Int) ≤ (x : Int) := by omega
    have j0 : decide ((x0 : Int) ≤ (x : Int)) = true := decide_eq_true i0
    have n0 : decide (x0 ≤ x) = true := decide_eq_true p0
    have i1 : ¬ (x : Int) ≤ (x1 : Int) := by omega
    have j1 : decide ((x : Int) ≤ (x1 : Int)) = false := decide_eq_false i1
    have n1 : decide (x ≤ x1) = false := decide_eq_false p1
    clear hb2 p0 p1
    go_enter Tryd.func25, Tryd.ntmps25
    go_wp2_with (first | ((with_reducible show wpList _ _ _ (Oper.mk _ (Op.box _ _) _ _ _ _ :: _) _ _); (refine wpList_box_row rfl 34 (.tmp 2) rfl _ rfl g EG.out ?_; refine wpList_atE HW0.out ?_)))
    go_ret
    exact ⟨rfl, by first | exact HB.out | (rw [EG.out]; exact HB.out)⟩
  by_cases p2 : y0 ≤ y
  rotate_left
  · obtain rfl : bb = false := by rw [hb2]; exact decide_eq_false (by omega)
    have i0 : (x0 : Int) ≤ (x : Int) := by omega
    have j0 : decide ((x0 : Int) ≤ (x : Int)) = true := decide_eq_true i0
    have n0 : decide (x0 ≤ x) = true := decide_eq_true p0
    have i1 : (x : Int) ≤ (x1 : Int) := by omega
    have j1 : decide ((x : Int) ≤ (x1 : Int)) = true := decide_eq_true i1
    have n1 : decide (x ≤ x1) = true := decide_eq_true p1
    have i2 : ¬ (y0 : Int) ≤ (y : Int) := by omega
    have j2 : decide ((y0 : Int) ≤ (y : Int)) = false := decide_eq_false i2
    have n2 : decide (y0 ≤ y) = false := decide_eq_false p2
    clear hb2 p0 p1 p2
    go_enter Tryd.func25, Tryd.ntmps25
    go_wp2_with (first | ((with_reducible show wpList _ _ _ (Oper.mk _ (Op.box _ _) _ _ _ _ :: _) _ _); (refine wpList_box_row rfl 34 (.tmp 2) rfl _ rfl g EG.out ?_; refine wpList_atE HW0.out ?_)))
    go_ret
    exact ⟨rfl, by first | exact HB.out | (rw [EG.out]; exact HB.out)⟩
  by_cases p3 : y ≤ y1
  rotate_left
  · obtain rfl : bb = false := by rw [hb2]; exact decide_eq_false (by omega)
    have i0 : (x0 : Int) ≤ (x : Int) := by omega
    have j0 : decide ((x0 : Int) ≤ (x : Int)) = true := decide_eq_true i0
    have n0 : decide (x0 ≤ x) = true := decide_eq_true p0
    have i1 : (x : Int) ≤ (x1 : Int) := by omega
    have j1 : decide ((x : Int) ≤ (x1 : Int)) = true := decide_eq_true i1
    have n1 : decide (x ≤ x1) = true := decide_eq_true p1
    have i2 : (y0 : Int) ≤ (y : Int) := by omega
    have j2 : decide ((y0 : Int) ≤ (y : Int)) = true := decide_eq_true i2
    have n2 : decide (y0 ≤ y) = true := decide_eq_true p2
    have i3 : ¬ (y : Int) ≤ (y1 : Int) := by omega
    have j3 : decide ((y : Int) ≤ (y1 : Int)) = false := decide_eq_false i3
    have n3 : decide (y ≤ y1) = false := decide_eq_false p3
    clear hb2 p0 p1 p2 p3
    go_enter Tryd.func25, Tryd.ntmps25
    go_wp2_with (first | ((with_reducible show wpList _ _ _ (Oper.mk _ (Op.box _ _) _ _ _ _ :: _) _ _); (refine wpList_box_row rfl 34 (.tmp 2) rfl _ rfl g EG.out ?_; refine wpList_atE HW0.out ?_)))
    go_ret
    exact ⟨rfl, by first | exact HB.out | (rw [EG.out]; exact HB.out)⟩
  obtain rfl : bb = true := by rw [hb2]; exact decide_eq_true ⟨p0, p1, p2, p3⟩
  have i0 : (x0 : Int) ≤ (x : Int) := by omega
  have j0 : decide ((x0 : Int) ≤ (x : Int)) = true := decide_eq_true i0
  have n0 : decide (x0 ≤ x) = true := decide_eq_true p0
  have i1 : (x : Int) ≤ (x1 : Int) := by omega
  have j1 : decide ((x : Int) ≤ (x1 : Int)) = true := decide_eq_true i1
  have n1 : decide (x ≤ x1) = true := decide_eq_true p1
  have i2 : (y0 : Int) ≤ (y : Int) := by omega
  have j2 : decide ((y0 : Int) ≤ (y : Int)) = true := decide_eq_true i2
  have n2 : decide (y0 ≤ y) = true := decide_eq_true p2
  have i3 : (y : Int) ≤ (y1 : Int) := by omega
  have j3 : decide ((y : Int) ≤ (y1 : Int)) = true := decide_eq_true i3
  have n3 : decide (y ≤ y1) = true := decide_eq_true p3
  clear hb2 p0 p1 p2 p3
  go_enter Tryd.func25, Tryd.ntmps25
  go_wp2_with (first | ((with_reducible show wpList _ _ _ (Oper.mk _ (Op.box _ _) _ _ _ _ :: _) _ _); (refine wpList_box_row rfl 34 (.tmp 2) rfl _ rfl g EG.out ?_; refine wpList_atE HW0.out ?_)))
  go_ret
  exact ⟨rfl, by first | exact HB.out | (rw [EG.out]; exact HB.out)⟩

theorem rcover_bad (k : Int) (rc : Rect) (w : World) (hn : ¬ CovOk k rc) : Calls Tryd.prog 23 #[.int .i64 k, rcv rc] w fun e w' => e = .returned (.tuple #[.slice none 0 0, .int .i64 1]) ∧ Below w.heap.size w w' := by
  obtain ⟨g, eg⟩ : ∃ g, g = w.heap.size := ⟨_, rfl⟩
  obtain ⟨x0, hx0⟩ : ∃ x, x = rc.x0 := ⟨_, rfl⟩
  obtain ⟨y0, hy0⟩ : ∃ x, x = rc.y0 := ⟨_, rfl⟩
  obtain ⟨x1, hx1⟩ : ∃ x, x = rc.x1 := ⟨_, rfl⟩
  obtain ⟨y1, hy1⟩ : ∃ x, x = rc.y1 := ⟨_, rfl⟩
  obtain ⟨W1, hW1⟩ : ∃ W, W = w.alloc (.cells #[.int .u32 x0, .int .u32 y0, .int .u32 x1, .int .u32 y1] 34) := ⟨_, rfl⟩
  have z1 : W1.heap.size = g + 1 := by rw [hW1, eg]; simp
  have hb : Below w.heap.size w W1 := by rw [hW1]; exact (Below.refl _ _).alloc (Nat.le_refl _) _
  have R1 : Row W1 g 34 #[.int .u32 x0, .int .u32 y0, .int .u32 x1, .int .u32 y1] := by rw [hW1]; exact Row.new' 34 _ eg
  have q1 := R1.cell 0
  have q2 := R1.cell 1
  have q3 := R1.cell 2
  have q4 := R1.cell 3
  simp only [List.getElem?_toArray, List.getElem?_cons_zero, List.getElem?_cons_succ] at q1 q2 q3 q4
  have ez : w.heap.size = g := eg.symm
  have HW1 := Lib.hid hW1
  have HB := Lib.hid hb
  have HR1 := Lib.hid R1
  have EG := Lib.hid eg
  have Z1 := Lib.hid z1
  rw [rcv, ← hx0, ← hy0, ← hx1, ← hy1]
  unfold CovOk at hn
  have HX := Lib.hid (And.intro hx0 (And.intro hy0 (And.intro hx1 hy1)))
  rw [← hx0, ← hy0, ← hx1, ← hy1] at hn
  clear hx0 hy0 hx1 hy1 hW1 hb R1 eg z1
  by_cases p0 : k < 1
  · have i0 : decide (k < 1) = true := decide_eq_true p0
    clear hn
    go_enter Tryd.func23, Tryd.ntmps23
    go_wp2_with (first | ((with_reducible show wpList _ _ _ (Oper.mk _ (Op.box _ _) _ _ _ _ :: _) _ _); (refine wpList_box_row rfl 34 (.tmp 1) rfl _ rfl g EG.out ?_; refine wpList_atE HW1.out ?_)))
    go_quiet (fail)
    go_wp2_with fail
    go_ret2
    exact ⟨rfl, below_drewN HB.out _⟩
  have i0 : decide (k < 1) = false := decide_eq_false p0
  by_cases p1 : 16 < k
  · have i1 : decide (16 < k) = true := decide_eq_true p1
    clear hn
    go_enter Tryd.func23, Tryd.ntmps23
    go_wp2_with (first | ((with_reducible show wpList _ _ _ (Oper.mk _ (Op.box _ _) _ _ _ _ :: _) _ _); (refine wpList_box_row rfl 34 (.tmp 1) rfl _ rfl g EG.out ?_; refine wpList_atE HW1.out ?_)))
    go_quiet (fail)
    go_wp2_with fail
    go_ret2
    exact ⟨rfl, below_drewN HB.out _⟩
  have i1 : decide (16 < k) = false := decide_eq_false p1
  obtain ⟨n, rfl⟩ : ∃ n : Nat, k = n := ⟨k.toNat, by omega⟩
  rw [Int.toNat_natCast] at hn
  have n16 : n ≤ 16 := by omega
  have i2 : decide (n < 1) = false := decide_eq_false (by omega)
  have i3 : decide (16 < n) = false := decide_eq_false (by omega)
  have i4 : ¬ n = 0 := by omega
  have i5 : 1 ≤ n := by omega
  obtain ⟨s, hs⟩ : ∃ s, s = 2 ^ n := ⟨_, rfl⟩
  have s1 : s ≤ 65536 := by rw [hs]; exact pow_le16 n n16
  have t1 : (2 : Int) ^ n = (s : Int) := by rw [hs]; exact int_two_pow n
  rw [← hs] at hn
  clear hs
  have hn' : x1 < x0 ∨ y1 < y0 ∨ s ≤ x1 ∨ s ≤ y1 := by omega
  clear hn
  by_cases c0 : x1 < x0
  · skip
    have j0 : decide ((x1 : Int) < (x0 : Int)) = true := decide_eq_true (by omega)
    have n0 : decide (x1 < x0) = true := decide_eq_true (by omega)
    clear hn' c0
    go_enter Tryd.func23, Tryd.ntmps23
    go_wp2_with (first | ((with_reducible show wpList _ _ _ (Oper.mk _ (Op.box _ _) _ _ _ _ :: _) _ _); (refine wpList_box_row rfl 34 (.tmp 1) rfl _ rfl g EG.out ?_; refine wpList_atE HW1.out ?_)))
    go_quiet (fail)
    go_wp2_with fail
    go_ret2
    exact ⟨rfl, below_drewN HB.out _⟩
  by_cases c1 : y1 < y0
  · skip
    have j0 : decide ((x1 : Int) < (x0 : Int)) = false := decide_eq_false (by omega)
    have n0 : decide (x1 < x0) = false := decide_eq_false (by omega)
    have j1 : decide ((y1 : Int) < (y0 : Int)) = true := decide_eq_true (by omega)
    have n1 : decide (y1 < y0) = true := decide_eq_true (by omega)
    clear hn' c0 c1
    go_enter Tryd.func23, Tryd.ntmps23
    go_wp2_with (first | ((with_reducible show wpList _ _ _ (Oper.mk _ (Op.box _ _) _ _ _ _ :: _) _ _); (refine wpList_box_row rfl 34 (.tmp 1) rfl _ rfl g EG.out ?_; refine wpList_atE HW1.out ?_)))
    go_quiet (fail)
    go_wp2_with fail
    go_ret2
    exact ⟨rfl, below_drewN HB.out _⟩
  by_cases c2 : s ≤ x1
  · skip
    have j0 : decide ((x1 : Int) < (x0 : Int)) = false := decide_eq_false (by omega)
    have n0 : decide (x1 < x0) = false := decide_eq_false (by omega)
    have j1 : decide ((y1 : Int) < (y0 : Int)) = false := decide_eq_false (by omega)
    have n1 : decide (y1 < y0) = false := decide_eq_false (by omega)
    have j2 : decide ((s : Int) ≤ (x1 : Int)) = true := decide_eq_true (by omega)
    have n2 : decide (s ≤ x1) = true := decide_eq_true (by omega)
    clear hn' c0 c1 c2
    go_enter Tryd.func23, Tryd.ntmps23
    go_wp2_with (first | ((with_reducible show wpList _ _ _ (Oper.mk _ (Op.box _ _) _ _ _ _ :: _) _ _); (refine wpList_box_row rfl 34 (.tmp 1) rfl _ rfl g EG.out ?_; refine wpList_atE HW1.out ?_)))
    go_quiet (fail)
    go_wp2_with fail
    go_ret2
    exact ⟨rfl, below_drewN HB.out _⟩
  have c3 : s ≤ y1 := by omega
  have j0 : decide ((x1 : Int) < (x0 : Int)) = false := decide_eq_false (by omega)
  have n0 : decide (x1 < x0) = false := decide_eq_false (by omega)
  have j1 : decide ((y1 : Int) < (y0 : Int)) = false := decide_eq_false (by omega)
  have n1 : decide (y1 < y0) = false := decide_eq_false (by omega)
  have j2 : decide ((s : Int) ≤ (x1 : Int)) = false := decide_eq_false (by omega)
  have n2 : decide (s ≤ x1) = false := decide_eq_false (by omega)
  have j3 : decide ((s : Int) ≤ (y1 : Int)) = true := decide_eq_true (by omega)
  have n3 : decide (s ≤ y1) = true := decide_eq_true (by omega)
  clear hn' c0 c1 c2 c3
  go_enter Tryd.func23, Tryd.ntmps23
  go_wp2_with (first | ((with_reducible show wpList _ _ _ (Oper.mk _ (Op.box _ _) _ _ _ _ :: _) _ _); (refine wpList_box_row rfl 34 (.tmp 1) rfl _ rfl g EG.out ?_; refine wpList_atE HW1.out ?_)))
  go_quiet (fail)
  go_wp2_with fail
  go_ret2
  exact ⟨rfl, below_drewN HB.out _⟩

/-- the ranges so far -/
theorem scan_succ (ins : Nat → Bool) (i : Nat) : scan ins (i + 1) 0 [] = if ins i then add i i (scan ins i 0 []) else scan ins i 0 [] := by
  rw [scan_more, scan, scan, Nat.zero_add]
theorem length_scan (ins : Nat → Bool) : ∀ i, (scan ins i 0 []).length ≤ i
  | 0 => by simp [scan]
  | i + 1 => by
    rw [scan_succ]
    have := length_scan ins i
    split
    · have := length_add i i (scan ins i 0 []); omega
    · omega
theorem bound_scan (ins : Nat → Bool) (i j : Nat) (hj : j < (scan ins i 0 []).length) : ((scan ins i 0 []).getD j (0, 0)).2 < i := by
  have := good_scan ins i 0 [] (good_nil _)
  rw [Nat.zero_add] at this
  exact (this.1 j hj).2

/-- a list of ranges of the call's own; below B nothing has turned since W0 -/
def BufG (B : Nat) (v : Value) (L : List (Nat × Nat)) (W0 w : World) : Prop := w.ownsRow B 58 2 v L.length (rcells L) ∧ Below B W0 w ∧ B ≤ w.heap.size
theorem BufG.call {B : Nat} {v : Value} {L : List (Nat × Nat)} {W0 w w' : World} (h : BufG B v L W0 w) (hb : Below w.heap.size w w') : BufG B v L W0 w' :=
  ⟨owns_below h.1 hb (Nat.le_refl _), h.2.1.trans (hb.mono h.2.2), Nat.le_trans h.2.2 hb.size⟩
theorem BufG.grown {B : Nat} {v v' : Value} {L L' : List (Nat × Nat)} {W0 w w' : World} (h : BufG B v L W0 w) (o : Obj) (ho : w'.ownsRow B 58 2 v' L'.length (rcells L')) (hg : (w.alloc o).grownBy w' v.ownBlock) : BufG B v' L' W0 w' := by
  have b1 : Below B W0 (w.alloc o) := h.2.1.alloc h.2.2 o
  have l1 : B ≤ (w.alloc o).heap.size := Nat.le_trans h.2.2 (by simp)
  exact ⟨ho, b1.grown hg l1 (fun k hk => (h.1.lt k hk).1), Nat.le_trans l1 hg.size⟩
theorem BufG.setLast {B g n cap i b : Nat} {L : List (Nat × Nat)} {W0 w : World} (h : BufG B (.slice (some ⟨g, 0, none⟩) n cap) L W0 w) (hn : n = L.length) (hi : i < L.length) :
    BufG B (.slice (some ⟨g, 0, none⟩) n cap) (L.set i ((L.getD i (0, 0)).1, b)) W0 (w.setCell ⟨g, i * 2 + 1, none⟩ (.int .u64 (b : Int))) := by
  subst hn
  have hge := (h.1.lt g rfl).1
  refine ⟨?_, h.2.1.setCell hge _, by rw [World.size_setCell]; exact h.2.2⟩
  have := h.1.stored (i * 2 + 1) (.int .u64 (b : Int))
  rw [set_rcells L i b hi] at this
  rw [List.length_set]
  exact this.1

set_option maxRecDepth 20000 in
theorem rcover_any (k : Int) (rc : Rect) (w : World) (hn : CovOk k rc) : Calls Tryd.prog 23 #[.int .i64 k, rcv rc] w fun e w' => ∃ a c, e = .returned (.tuple #[.slice a (cov k.toNat rc).length c, .int .i64 0]) ∧ RgsM w' a (cov k.toNat rc) ∧ Below w.heap.size w w' := by
  obtain ⟨g, eg⟩ : ∃ g, g = w.heap.size := ⟨_, rfl⟩
  obtain ⟨x0, hx0⟩ : ∃ x, x = rc.x0 := ⟨_, rfl⟩
  obtain ⟨y0, hy0⟩ : ∃ x, x = rc.y0 := ⟨_, rfl⟩
  obtain ⟨x1, hx1⟩ : ∃ x, x = rc.x1 := ⟨_, rfl⟩
  obtain ⟨y1, hy1⟩ : ∃ x, x = rc.y1 := ⟨_, rfl⟩
  obtain ⟨W1, hW1⟩ : ∃ W, W = w.alloc (.cells #[.int .u32 x0, .int .u32 y0, .int .u32 x1, .int .u32 y1] 34) := ⟨_, rfl⟩
  have z1 : W1.heap.size = g + 1 := by rw [hW1, eg]; simp
  have hb : Below w.heap.size w W1 := by rw [hW1]; exact (Below.refl _ _).alloc (Nat.le_refl _) _
  have R1 : Row W1 g 34 #[.int .u32 x0, .int .u32 y0, .int .u32 x1, .int .u32 y1] := by rw [hW1]; exact Row.new' 34 _ eg
  have q1 := R1.cell 0
  have q2 := R1.cell 1
  have q3 := R1.cell 2
  have q4 := R1.cell 3
  simp only [List.getElem?_toArray, List.getElem?_cons_zero, List.getElem?_cons_succ] at q1 q2 q3 q4
  have ez : w.heap.size = g := eg.symm
  have HW1 := Lib.hid hW1
  have HB := Lib.hid hb
  have HR1 := Lib.hid R1
  have EG := Lib.hid eg
  have Z1 := Lib.hid z1
  rw [rcv, ← hx0, ← hy0, ← hx1, ← hy1]
  unfold CovOk at hn
  have HX := Lib.hid (And.intro hx0 (And.intro hy0 (And.intro hx1 hy1)))
  rw [← hx0, ← hy0, ← hx1, ← hy1] at hn
  clear hx0 hy0 hx1 hy1 hW1 hb R1 eg z1
  have i0 : decide (k < 1) = false := decide_eq_false (by omega)
  have i1 : decide (16 < k) = false := decide_eq_false (by omega)
  obtain ⟨n, rfl⟩ : ∃ n : Nat, k = n := ⟨k.toNat, by omega⟩
  rw [Int.toNat_natCast] at hn ⊢
  have n16 : n ≤ 16 := by omega
  have i2 : decide (n < 1) = false := decide_eq_false (by omega)
  have i3 : decide (16 < n) = false := decide_eq_false (by omega)
  have i4 : ¬ n = 0 := by omega
  have i5 : 1 ≤ n := by omega
  obtain ⟨s, hs⟩ : ∃ s, s = 2 ^ n := ⟨_, rfl⟩
  have s1 : s ≤ 65536 := by rw [hs]; exact pow_le16 n n16
  have t1 : (2 : Int) ^ n = (s : Int) := by rw [hs]; exact int_two_pow n
  rw [← hs] at hn
  clear hs
  have j0 : decide ((x1 : Int) < (x0 : Int)) = false := decide_eq_false (by omega)
  have n0 : decide (x1 < x0) = false := decide_eq_false (by omega)
  have j1 : decide ((y1 : Int) < (y0 : Int)) = false := decide_eq_false (by omega)
  have n1 : decide (y1 < y0) = false := decide_eq_false (by omega)
  have j2 : decide ((s : Int) ≤ (x1 : Int)) = false := decide_eq_false (by omega)
  have n2 : decide (s ≤ x1) = false := decide_eq_false (by omega)
  have j3 : decide ((s : Int) ≤ (y1 : Int)) = false := decide_eq_false (by omega)
  have n3 : decide (s ≤ y1) = false := decide_eq_false (by omega)
  clear hn
  obtain ⟨fk, hfk⟩ : ∃ f, f = 4 ^ n := ⟨_, rfl⟩
  have fk0 : fk ≤ 4294967296 := by rw [hfk]; exact four_le16 n n16
  have t2 : (2 : Int) ^ (2 * n) = (fk : Int) := by rw [hfk]; exact int_four_pow n
  obtain ⟨ins, hins⟩ : ∃ f : Nat → Bool, f = fun i => rc.has (pnt n i) := ⟨_, rfl⟩
  have ecov : cov n rc = scan ins fk 0 [] := by rw [cov, hins, hfk]
  rw [ecov]
  have RP := Lib.hid (fun (i : Nat) (W : World) (hi : i < fk) => rpoint_any n i W n16 (by rw [← hfk]; exact hi))
  have IA := Lib.hid (fun (i : Nat) (W : World) => inside_any (pnt n i).1 (pnt n i).2 rc W)
  have HINS := Lib.hid (fun i => (congrFun hins i : ins i = rc.has (pnt n i)))
  have PL := Lib.hid (fun i (hi : i < fk) => pnt_lt n i (by rw [← hfk]; exact hi))
  have P16 := Lib.hid (pow_le16 n n16)
  clear hins ecov hfk
  go_enter Tryd.func23, Tryd.ntmps23
  go_wp2_with (first | ((with_reducible show wpList _ _ _ (Oper.mk _ (Op.box _ _) _ _ _ _ :: _) _ _); (refine wpList_box_row rfl 34 (.tmp 1) rfl _ rfl g EG.out ?_; refine wpList_atE HW1.out ?_)))
  go_quiet (fail)
  obtain ⟨Wd, hWd⟩ : ∃ W, W = W1.drewN nq := ⟨_, rfl⟩
  obtain ⟨gE, hgE⟩ : ∃ x, x = g + 1 := ⟨_, rfl⟩
  have zd : Wd.heap.size = gE := by rw [hWd, hgE]; exact Z1.out
  obtain ⟨W2, hW2⟩ : ∃ W, W = Wd.alloc (.cells #[] 58) := ⟨_, rfl⟩
  have bD : Below w.heap.size w Wd := by rw [hWd]; exact below_drewN HB.out nq
  have rD : Row Wd g 34 #[.int .u32 x0, .int .u32 y0, .int .u32 x1, .int .u32 y1] := by rw [hWd]; exact HR1.out.drewN nq
  have G0 : BufG gE (.slice (some ⟨gE, 0, none⟩) 0 0) [] Wd W2 := by
    refine ⟨?_, ?_, ?_⟩
    · have := World.ownsRow_lit (base := gE) (e := 58) (size := 2) Wd #[] 0 (Nat.le_of_eq zd.symm) (by decide) rfl
      rw [hW2, ← zd] at *
      exact this
    · rw [hW2]; exact (Below.refl _ _).alloc (Nat.le_of_eq zd.symm) _
    · rw [hW2, World.size_alloc, zd]; omega
  have HWd := Lib.hid hWd
  have HW2 := Lib.hid hW2
  have HG0 := Lib.hid G0
  have HBD := Lib.hid bD
  have HRD := Lib.hid rD
  have HGE := Lib.hid hgE
  have ZD := Lib.hid zd
  clear hWd hW2 G0 bD rD hgE q1 q2 q3 q4
  go_wp2_with (first | ((with_reducible (first | (refine wpList_atE HWd.out ?_) | (refine wpList_atE HW2.out ?_)))))
  rw [← HW2.out]
  go_loopw [6, 7, 8, 9, 10, 11] (fun v iv _ _ _ _ wr => ∃ (i g2 cap : Nat), i ≤ fk ∧ iv = .int .u64 i ∧ v = .slice (some ⟨g2, 0, none⟩) (scan ins i 0 []).length cap ∧ BufG gE v (scan ins i 0 []) Wd wr) (fun _ iv _ _ _ _ _ => fk - (intOf iv).toNat)
  case atStart => exact ⟨0, gE, 0, Nat.zero_le _, rfl, rfl, HG0.out⟩
  case round =>
    obtain ⟨i, g2, cap, hi, rfl, rfl, hG⟩ := hrel
    by_cases hlt0 : i < fk
    · have hlt := Lib.hid hlt0
      have ii : (i : Int) < (fk : Int) := by omega
      have NS := scan_succ ins i
      have LB := length_scan ins i
      have BB := bound_scan ins i
      obtain ⟨L, hL⟩ : ∃ L, L = scan ins i 0 [] := ⟨_, rfl⟩
      rw [← hL] at hG NS LB BB
      rw [← hL]
      have HG := Lib.hid hG
      have HRR := Lib.hid (HRD.out.below hG.2.1 (by rw [HGE.out]; omega))
      have LL : Hid (L.length ≤ 4294967296) := Lib.hid (by omega)
      have PLi := PL.out i hlt0
      have HI0 := IA.out i
      rw [show rc.has ((pnt n i).1, (pnt n i).2) = ins i from (HINS.out i).symm] at HI0
      obtain ⟨px, hpx⟩ : ∃ x, x = (pnt n i).1 := ⟨_, rfl⟩
      obtain ⟨py, hpy⟩ : ∃ x, x = (pnt n i).2 := ⟨_, rfl⟩
      have RPi := RP.out i
      rw [← hpx, ← hpy] at HI0 RPi
      have HRP := Lib.hid (fun W => RPi W hlt0)
      obtain ⟨ex0, ey0, ex1, ey1⟩ := HX.out
      rw [rcv, ← ex0, ← ey0, ← ex1, ← ey1] at HI0
      clear ex0 ey0 ex1 ey1
      have HPX := Lib.hid hpx
      have HPY := Lib.hid hpy
      have l32 : L.length ≤ 4294967296 := LL.out
      have i32 : i ≤ 4294967295 := by omega
      clear RPi PLi hpx hpy hL hG
      by_cases hin : ins i = true
      · rw [hin] at HI0
        rw [if_pos hin] at NS
        have HIA := Lib.hid HI0
        clear HI0 hin
        by_cases hn0 : L.length = 0
        · have hnil : L = [] := List.eq_nil_of_length_eq_zero hn0
          have NX := Lib.hid (show scan ins (i + 1) 0 [] = L ++ [(i, i)] by rw [NS, add, if_neg (by rw [hn0]; omega)])
          clear NS LB BB hlt0 hn0
          subst hnil
          go_wp2_with fail
          refine (HRP.out wr).mono ?_
          rintro e w1 ⟨rfl, hw1⟩
          rw [hw1]
          clear hw1
          go_wp2_with (first | ((with_reducible show wpList _ _ _ (Oper.mk _ (Op.load _ _) _ _ _ _ :: _) _ _); refine wpList_load_arr rfl 34 (.tmp 3) rfl g 34 #[.int .u32 x0, .int .u32 y0, .int .u32 x1, .int .u32 y1] Tryd.underlying34 Tryd.n34 rfl HRR.out ?_))
          refine (HIA.out _).mono ?_
          rintro e w2 ⟨rfl, b2⟩
          have HG2 := Lib.hid (HG.out.call b2)
          clear b2
          go_wp2_with (first | ((with_reducible show wpList _ _ _ (Oper.mk _ (Op.call _) _ _ _ _ :: _) _ _); (refine wpList_pushG rfl (.tmp 89) (.tmp 93) rfl gE (.slice (some ⟨g2, 0, none⟩) 0 cap) ([] : List (Nat × Nat)) rfl w2 _ (i, i) rfl HG2.out.1 HG2.out.2.2 w2.heap.size rfl rfl (by simp) (fun v' w' hv' hg => ?_); obtain ⟨ge, ce, ev, _⟩ := World.ownsRow.form hv' (by simp); subst ev; have HNG := Lib.hid (BufG.grown HG2.out _ hv' hg); clear hv' hg)))
          go_roundw
          case rel => exact ⟨i + 1, ge, ce, hlt.out, by go_num, by have := NX.out; simp [this], by rw [NX.out]; have h := HNG.out; first | exact h | (rw [List.length_append] at h; exact h)⟩
          case measure => have := hlt.out; simp [intOf] <;> omega
        · obtain ⟨nm, hnm⟩ : ∃ nm, nm = L.length - 1 := ⟨_, rfl⟩
          obtain ⟨⟨la, lb⟩, hlab⟩ : ∃ p, p = lastR L := ⟨_, rfl⟩
          have hgl : L.getD nm (0, 0) = (la, lb) := by rw [hlab, lastR, ← hnm]
          have lbM : lb ≤ 4294967294 := by have := BB nm (by omega); rw [hgl] at this; simp only at this; omega
          have hgt : 0 < L.length := by omega
          have ni : (0 : Int) < (L.length : Int) := by omega
          have ni2 : decide (0 < L.length) = true := decide_eq_true hgt
          have nmi : (L.length : Int) - 1 = (nm : Int) := by omega
          have nml : (nm : Int) < (L.length : Int) := by omega
          have nmL : Hid (nm < L.length) := Lib.hid (by omega)
          have HGL := Lib.hid hgl
          by_cases hadj : lb + 1 = i
          · have NX := Lib.hid (show scan ins (i + 1) 0 [] = L.set nm ((L.getD nm (0, 0)).1, i) by rw [NS, add, if_pos ⟨hgt, by rw [← hlab]; exact hadj⟩, ← hlab, hgl, ← hnm])
            have eqi : (lb : Int) + 1 = (i : Int) := by omega
            clear NS LB BB hnm hlab hgl hgt hadj hlt0
            go_wp2_with fail
            refine (HRP.out wr).mono ?_
            rintro e w1 ⟨rfl, hw1⟩
            rw [hw1]
            clear hw1
            go_wp2_with (first | ((with_reducible show wpList _ _ _ (Oper.mk _ (Op.load _ _) _ _ _ _ :: _) _ _); refine wpList_load_arr rfl 34 (.tmp 3) rfl g 34 #[.int .u32 x0, .int .u32 y0, .int .u32 x1, .int .u32 y1] Tryd.underlying34 Tryd.n34 rfl HRR.out ?_))
            refine (HIA.out _).mono ?_
            rintro e w2 ⟨rfl, b2⟩
            have HG2 := Lib.hid (HG.out.call b2)
            clear b2
            have vl0 := (HG2.out.1.cellAt (nm * 2 + 1) (by have := nmL.out; omega)).trans (get_rcells L nm 1 nmL.out (by decide))
            rw [HGL.out] at vl0
            have vl1 : w2.cell? ⟨g2, nm * 2 + 1, none⟩ = some (.int .u64 lb) := vl0
            have vfr : w2.frozen? ⟨g2, nm * 2 + 1, none⟩ = false := HG2.out.1.frozenAt _
            clear vl0
            go_wp2_with fail
            go_roundw
            case rel => exact ⟨i + 1, g2, cap, hlt.out, by go_num, by rw [NX.out, List.length_set], by rw [NX.out]; exact HG2.out.setLast rfl nmL.out⟩
            case measure => have := hlt.out; simp [intOf] <;> omega
          · have NX := Lib.hid (show scan ins (i + 1) 0 [] = L ++ [(i, i)] by rw [NS, add, if_neg (by rw [← hlab]; intro h; exact hadj h.2)])
            have neb : ((lb : Int) + 1 == (i : Int)) = false := beq_eq_false_iff_ne.2 (by omega)
            clear NS LB BB hnm hlab hgl hgt hadj hlt0
            go_wp2_with fail
            refine (HRP.out wr).mono ?_
            rintro e w1 ⟨rfl, hw1⟩
            rw [hw1]
            clear hw1
            go_wp2_with (first | ((with_reducible show wpList _ _ _ (Oper.mk _ (Op.load _ _) _ _ _ _ :: _) _ _); refine wpList_load_arr rfl 34 (.tmp 3) rfl g 34 #[.int .u32 x0, .int .u32 y0, .int .u32 x1, .int .u32 y1] Tryd.underlying34 Tryd.n34 rfl HRR.out ?_))
            refine (HIA.out _).mono ?_
            rintro e w2 ⟨rfl, b2⟩
            have HG2 := Lib.hid (HG.out.call b2)
            clear b2
            have vl0 := (HG2.out.1.cellAt (nm * 2 + 1) (by have := nmL.out; omega)).trans (get_rcells L nm 1 nmL.out (by decide))
            rw [HGL.out] at vl0
            have vl1 : w2.cell? ⟨g2, nm * 2 + 1, none⟩ = some (.int .u64 lb) := vl0
            have vfr : w2.frozen? ⟨g2, nm * 2 + 1, none⟩ = false := HG2.out.1.frozenAt _
            clear vl0
            go_wp2_with (first | ((with_reducible show wpList _ _ _ (Oper.mk _ (Op.call _) _ _ _ _ :: _) _ _); (refine wpList_pushG rfl (.tmp 89) (.tmp 93) rfl gE (.slice (some ⟨g2, 0, none⟩) L.length cap) L rfl w2 _ (i, i) rfl HG2.out.1 HG2.out.2.2 w2.heap.size rfl rfl LL.out (fun v' w' hv' hg => ?_); obtain ⟨ge, ce, ev, _⟩ := World.ownsRow.form hv' (by simp); subst ev; have HNG := Lib.hid (BufG.grown HG2.out _ hv' hg); clear hv' hg)))
            go_roundw
            case rel => exact ⟨i + 1, ge, ce, hlt.out, by go_num, by have := NX.out; simp [this], by rw [NX.out]; have h := HNG.out; first | exact h | (rw [List.length_append] at h; exact h)⟩
            case measure => have := hlt.out; simp [intOf] <;> omega
      · have hin' : ins i = false := by simpa using hin
        rw [hin'] at HI0
        rw [if_neg hin] at NS
        have HIA := Lib.hid HI0
        have NX := Lib.hid NS
        clear HI0 hin hin' NS LB BB hlt0
        go_wp2_with fail
        refine (HRP.out wr).mono ?_
        rintro e w1 ⟨rfl, hw1⟩
        rw [hw1]
        clear hw1
        go_wp2_with (first | ((with_reducible show wpList _ _ _ (Oper.mk _ (Op.load _ _) _ _ _ _ :: _) _ _); refine wpList_load_arr rfl 34 (.tmp 3) rfl g 34 #[.int .u32 x0, .int .u32 y0, .int .u32 x1, .int .u32 y1] Tryd.underlying34 Tryd.n34 rfl HRR.out ?_))
        refine (HIA.out _).mono ?_
        rintro e w2 ⟨rfl, b2⟩
        have HG2 := Lib.hid (HG.out.call b2)
        clear b2
        go_wp2_with fail
        go_roundw
        case rel => exact ⟨i + 1, g2, cap, hlt.out, by go_num, by rw [NX.out], by rw [NX.out]; exact HG2.out⟩
        case measure => have := hlt.out; simp [intOf] <;> omega
    · obtain rfl : i = fk := by omega
      obtain ⟨a9, c9, ev9, hRM⟩ := rgs_of_own hG.1
      have HRM := Lib.hid hRM
      have BL := Lib.hid (HBD.out.trans (hG.2.1.mono (by rw [HGE.out, EG.out]; omega)))
      have EV := Lib.hid ev9
      clear hRM hG hlt0 ev9
      go_wp2_with fail
      go_ret2
      have ev := EV.out
      injection ev with ea _ ec
      subst ea ec
      exact ⟨_, _, rfl, HRM.out, BL.out⟩
end Go.Proofs.YtnpkbjekodjcjaaDoor
