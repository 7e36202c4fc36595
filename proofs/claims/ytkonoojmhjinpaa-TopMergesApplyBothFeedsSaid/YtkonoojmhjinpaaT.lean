/- Contracts: Fit, Made (values). -/
import Derived.Test.YtkonoojmhjinpaaS
set_option linter.all false
namespace Go.Proofs.Ytkonoojmhjinpaa
open Go.RowKit Go.Fen
set_option linter.unusedVariables false
set_option maxHeartbeats 4000000

/-- a value -/
structure Vl where
  b : Bool
  n : Int
  s : ByteArray
def vlc (x : Vl) : List Value := [.bool x.b, .int .i64 x.n, .string x.s]
theorem length_vlc (x : Vl) : (vlc x).length = 3 := rfl
theorem one_vl (x : Vl) : (vlc x).toArray.all (·.oneCell') = true := by simp [vlc, Value.oneCell']
theorem Try.z56 : (Try.prog.info? 56).bind (·.zero) = some (.agg #[.bool false, .int .i64 0, .string ⟨#[]⟩]) := by kernel_rfl
theorem Try.n56 : (Try.prog.info? 56).map (·.size) = some 3 := by kernel_rfl
def RetV (e : Ending) : Prop := ∃ x : Vl, e = .returned (.agg (vlc x).toArray)
theorem fit_any (x : Vl) (t : Int) (w : World) : Calls Try.prog 82 #[.agg (vlc x).toArray, .int .i64 t] w fun e w' => RetV e ∧ Below w.heap.size w w' := by
  obtain ⟨g, eg⟩ : ∃ g, g = w.heap.size := ⟨_, rfl⟩
  obtain ⟨W0, hW0⟩ : ∃ W, W = w.alloc (.cells (vlc x).toArray 56) := ⟨_, rfl⟩
  obtain ⟨W1, hW1⟩ : ∃ W, W = W0.alloc (.cells #[.bool false, .int .i64 0, .string ⟨#[]⟩] 56) := ⟨_, rfl⟩
  have z0 : W0.heap.size = g + 1 := by rw [hW0, eg]; simp
  have hb : Below w.heap.size w W1 := by rw [hW1, hW0]; exact ((Below.refl _ _).alloc (Nat.le_refl _) _).alloc (by simp) _
  have R0 : Row W1 g 56 (vlc x).toArray := by rw [hW1, hW0, eg]; exact (Row.new w 56 _).alloc _
  have R1 : Row W1 (g + 1) 56 #[.bool false, .int .i64 0, .string ⟨#[]⟩] := by rw [hW1]; exact Row.new' 56 _ z0.symm
  have HW0 := Lib.hid hW0
  have HW1 := Lib.hid hW1
  have EG := Lib.hid eg
  have Z0 := Lib.hid z0
  have HB := Lib.hid hb
  have HR0 := Lib.hid R0
  have HR1 := Lib.hid R1
  have HBP := Lib.hid (fun cs => below_putRow hb (show w.heap.size ≤ g + 1 by omega) cs)
  have q1 : W1.cell? ⟨g, 1, none⟩ = some (.int .i64 x.n) := R0.cell 1
  have q2 : W1.cell? ⟨g, 2, none⟩ = some (.string x.s) := R0.cell 2
  clear hW0 hW1 eg z0 hb R0 R1
  have q0 : W1.cell? ⟨g, 0, none⟩ = some (.bool x.b) := HR0.out.cell 0
  go_enter Try.func82, Try.ntmps82
  cases hx : x.b with
  | true =>
    rw [hx] at q0
    clear hx
    go_wp2_with (first | ((with_reducible show wpList _ _ _ (Oper.mk _ (Op.box _ _) _ _ _ _ :: _) _ _); (refine wpList_box_row rfl 56 (.tmp 0) rfl _ rfl g EG.out ?_; refine wpList_atE HW0.out ?_)) | ((with_reducible show wpList _ _ _ (Oper.mk _ (Op.alloc _) _ _ _ _ :: _) _ _); (refine wpList_alloc_row rfl 56 rfl #[.bool false, .int .i64 0, .string ⟨#[]⟩] Try.z56 (g + 1) Z0.out.symm ?_; refine wpList_atE HW1.out ?_)) | ((with_reducible show wpList _ _ _ (Oper.mk _ (Op.store _ _ _) _ _ _ _ :: _) _ _); refine wpList_put_arr rfl 56 (.tmp 4) (.tmp 7) rfl rfl (g + 1) 56 _ #[.bool true, .int .i64 0, .string ⟨#[]⟩] rfl rfl HR1.out Try.n56 rfl (by simp [Value.oneCell']) ?_))
    try simp only [Exit.inBlock, Exit.then]
    refine bodyPost_ret (results_cell_row (p := 4) (ty := 56) rfl _ _ (g + 1) 56 #[.bool true, .int .i64 0, .string ⟨#[]⟩] (0, 0) _ rfl (Row.setRow HR1.out _) Try.underlying56 rfl Try.n56) rfl ?_
    exact ⟨⟨Vl.mk _ _ _, rfl⟩, HBP.out _⟩
  | false =>
    rw [hx] at q0
    clear hx
    by_cases k1 : t = 1
    · have d1 : (t == 1) = true := by simp [k1]
      clear k1
      go_wp2_with (first | ((with_reducible show wpList _ _ _ (Oper.mk _ (Op.box _ _) _ _ _ _ :: _) _ _); (refine wpList_box_row rfl 56 (.tmp 0) rfl _ rfl g EG.out ?_; refine wpList_atE HW0.out ?_)) | ((with_reducible show wpList _ _ _ (Oper.mk _ (Op.alloc _) _ _ _ _ :: _) _ _); (refine wpList_alloc_row rfl 56 rfl #[.bool false, .int .i64 0, .string ⟨#[]⟩] Try.z56 (g + 1) Z0.out.symm ?_; refine wpList_atE HW1.out ?_)) | ((with_reducible show wpList _ _ _ (Oper.mk _ (Op.store _ _ _) _ _ _ _ :: _) _ _); refine wpList_put_arr rfl 56 (.tmp 4) (.tmp 14) rfl rfl (g + 1) 56 _ #[.bool false, .int .i64 _, .string ⟨#[]⟩] rfl rfl HR1.out Try.n56 rfl (by simp [Value.oneCell']) ?_))
      try simp only [Exit.inBlock, Exit.then]
      refine bodyPost_ret (results_cell_row (p := 4) (ty := 56) rfl _ _ (g + 1) 56 #[.bool false, .int .i64 _, .string ⟨#[]⟩] (0, 0) _ rfl (Row.setRow HR1.out _) Try.underlying56 rfl Try.n56) rfl ?_
      exact ⟨⟨Vl.mk _ _ _, rfl⟩, HBP.out _⟩
    have d1 : (t == 1) = false := by simp [k1]
    clear k1
    by_cases k2 : t = 2
    · have d2 : (t == 2) = true := by simp [k2]
      clear k2
      go_wp2_with (first | ((with_reducible show wpList _ _ _ (Oper.mk _ (Op.box _ _) _ _ _ _ :: _) _ _); (refine wpList_box_row rfl 56 (.tmp 0) rfl _ rfl g EG.out ?_; refine wpList_atE HW0.out ?_)) | ((with_reducible show wpList _ _ _ (Oper.mk _ (Op.alloc _) _ _ _ _ :: _) _ _); (refine wpList_alloc_row rfl 56 rfl #[.bool false, .int .i64 0, .string ⟨#[]⟩] Try.z56 (g + 1) Z0.out.symm ?_; refine wpList_atE HW1.out ?_)) | ((with_reducible show wpList _ _ _ (Oper.mk _ (Op.store _ _ _) _ _ _ _ :: _) _ _); refine wpList_put_arr rfl 56 (.tmp 4) (.tmp 21) rfl rfl (g + 1) 56 _ #[.bool false, .int .i64 _, .string ⟨#[]⟩] rfl rfl HR1.out Try.n56 rfl (by simp [Value.oneCell']) ?_))
      try simp only [Exit.inBlock, Exit.then]
      refine bodyPost_ret (results_cell_row (p := 4) (ty := 56) rfl _ _ (g + 1) 56 #[.bool false, .int .i64 _, .string ⟨#[]⟩] (0, 0) _ rfl (Row.setRow HR1.out _) Try.underlying56 rfl Try.n56) rfl ?_
      exact ⟨⟨Vl.mk _ _ _, rfl⟩, HBP.out _⟩
    have d2 : (t == 2) = false := by simp [k2]
    clear k2
    by_cases k5 : t = 5
    · have d5 : (t == 5) = true := by simp [k5]
      clear k5
      go_wp2_with (first | ((with_reducible show wpList _ _ _ (Oper.mk _ (Op.box _ _) _ _ _ _ :: _) _ _); (refine wpList_box_row rfl 56 (.tmp 0) rfl _ rfl g EG.out ?_; refine wpList_atE HW0.out ?_)) | ((with_reducible show wpList _ _ _ (Oper.mk _ (Op.alloc _) _ _ _ _ :: _) _ _); (refine wpList_alloc_row rfl 56 rfl #[.bool false, .int .i64 0, .string ⟨#[]⟩] Try.z56 (g + 1) Z0.out.symm ?_; refine wpList_atE HW1.out ?_)) | ((with_reducible show wpList _ _ _ (Oper.mk _ (Op.store _ _ _) _ _ _ _ :: _) _ _); refine wpList_put_arr rfl 56 (.tmp 4) (.tmp 27) rfl rfl (g + 1) 56 _ #[.bool false, .int .i64 _, .string ⟨#[]⟩] rfl rfl HR1.out Try.n56 rfl (by simp [Value.oneCell']) ?_))
      try simp only [Exit.inBlock, Exit.then]
      refine bodyPost_ret (results_cell_row (p := 4) (ty := 56) rfl _ _ (g + 1) 56 #[.bool false, .int .i64 _, .string ⟨#[]⟩] (0, 0) _ rfl (Row.setRow HR1.out _) Try.underlying56 rfl Try.n56) rfl ?_
      exact ⟨⟨Vl.mk _ _ _, rfl⟩, HBP.out _⟩
    have d5 : (t == 5) = false := by simp [k5]
    clear k5
    by_cases k4 : t = 4
    · have d4 : (t == 4) = true := by simp [k4]
      clear k4
      go_wp2_with (first | ((with_reducible show wpList _ _ _ (Oper.mk _ (Op.box _ _) _ _ _ _ :: _) _ _); (refine wpList_box_row rfl 56 (.tmp 0) rfl _ rfl g EG.out ?_; refine wpList_atE HW0.out ?_)) | ((with_reducible show wpList _ _ _ (Oper.mk _ (Op.alloc _) _ _ _ _ :: _) _ _); (refine wpList_alloc_row rfl 56 rfl #[.bool false, .int .i64 0, .string ⟨#[]⟩] Try.z56 (g + 1) Z0.out.symm ?_; refine wpList_atE HW1.out ?_)) | ((with_reducible show wpList _ _ _ (Oper.mk _ (Op.store _ _ _) _ _ _ _ :: _) _ _); refine wpList_put_arr rfl 56 (.tmp 4) (.tmp 37) rfl rfl (g + 1) 56 _ #[.bool false, .int .i64 0, .string _] rfl rfl HR1.out Try.n56 rfl (by simp [Value.oneCell']) ?_))
      all_goals
        try simp only [Exit.inBlock, Exit.then]
        refine bodyPost_ret (results_cell_row (p := 4) (ty := 56) rfl _ _ (g + 1) 56 #[.bool false, .int .i64 0, .string _] (0, 0) _ rfl (Row.setRow HR1.out _) Try.underlying56 rfl Try.n56) rfl ?_
        exact ⟨⟨Vl.mk _ _ _, rfl⟩, HBP.out _⟩
  
    have d4 : (t == 4) = false := by simp [k4]
    clear k4
    go_wp2_with (first | ((with_reducible show wpList _ _ _ (Oper.mk _ (Op.box _ _) _ _ _ _ :: _) _ _); (refine wpList_box_row rfl 56 (.tmp 0) rfl _ rfl g EG.out ?_; refine wpList_atE HW0.out ?_)) | ((with_reducible show wpList _ _ _ (Oper.mk _ (Op.alloc _) _ _ _ _ :: _) _ _); (refine wpList_alloc_row rfl 56 rfl #[.bool false, .int .i64 0, .string ⟨#[]⟩] Try.z56 (g + 1) Z0.out.symm ?_; refine wpList_atE HW1.out ?_)) | ((with_reducible show wpList _ _ _ (Oper.mk _ (Op.store _ _ _) _ _ _ _ :: _) _ _); refine wpList_put_arr rfl 56 (.tmp 4) (.tmp 40) rfl rfl (g + 1) 56 _ #[.bool false, .int .i64 _, .string ⟨#[]⟩] rfl rfl HR1.out Try.n56 rfl (by simp [Value.oneCell']) ?_))
    try simp only [Exit.inBlock, Exit.then]
    refine bodyPost_ret (results_cell_row (p := 4) (ty := 56) rfl _ _ (g + 1) 56 #[.bool false, .int .i64 _, .string ⟨#[]⟩] (0, 0) _ rfl (Row.setRow HR1.out _) Try.underlying56 rfl Try.n56) rfl ?_
    exact ⟨⟨Vl.mk _ _ _, rfl⟩, HBP.out _⟩
theorem vmade_any (x : Vl) (t : Int) (w : World) : Calls Try.prog 67 #[.agg (vlc x).toArray, .int .i64 t] w fun e w' => RetV e ∧ Below w.heap.size w w' := by
  obtain ⟨g, eg⟩ : ∃ g, g = w.heap.size := ⟨_, rfl⟩
  obtain ⟨W0, hW0⟩ : ∃ W, W = w.alloc (.cells (vlc x).toArray 56) := ⟨_, rfl⟩
  obtain ⟨W1, hW1⟩ : ∃ W, W = W0.alloc (.cells #[.bool false, .int .i64 0, .string ⟨#[]⟩] 56) := ⟨_, rfl⟩
  have z0 : W0.heap.size = g + 1 := by rw [hW0, eg]; simp
  have hb : Below w.heap.size w W1 := by rw [hW1, hW0]; exact ((Below.refl _ _).alloc (Nat.le_refl _) _).alloc (by simp) _
  have R0 : Row W1 g 56 (vlc x).toArray := by rw [hW1, hW0, eg]; exact (Row.new w 56 _).alloc _
  have R1 : Row W1 (g + 1) 56 #[.bool false, .int .i64 0, .string ⟨#[]⟩] := by rw [hW1]; exact Row.new' 56 _ z0.symm
  have HW0 := Lib.hid hW0
  have HW1 := Lib.hid hW1
  have EG := Lib.hid eg
  have Z0 := Lib.hid z0
  have HB := Lib.hid hb
  have HR0 := Lib.hid R0
  have HR1 := Lib.hid R1
  have HBP := Lib.hid (fun cs => below_putRow hb (show w.heap.size ≤ g + 1 by omega) cs)
  have q1 : W1.cell? ⟨g, 1, none⟩ = some (.int .i64 x.n) := R0.cell 1
  have q2 : W1.cell? ⟨g, 2, none⟩ = some (.string x.s) := R0.cell 2
  clear hW0 hW1 eg z0 hb R0 R1
  clear q1 q2
  go_enter Try.func67, Try.ntmps67
  go_wp2_with (first | ((with_reducible show wpList _ _ _ (Oper.mk _ (Op.box _ _) _ _ _ _ :: _) _ _); (refine wpList_box_row rfl 56 (.tmp 0) rfl _ rfl g EG.out ?_; refine wpList_atE HW0.out ?_)) | ((with_reducible show wpList _ _ _ (Oper.mk _ (Op.alloc _) _ _ _ _ :: _) _ _); (refine wpList_alloc_row rfl 56 rfl #[.bool false, .int .i64 0, .string ⟨#[]⟩] Try.z56 (g + 1) Z0.out.symm ?_; refine wpList_atE HW1.out ?_)))
  refine (type_any t _).mono ?_
  rintro e w2 ⟨⟨b, rfl⟩, hw⟩
  rw [hw]
  clear hw
  cases b with
  | false =>
    go_wp2_with (first | ((with_reducible show wpList _ _ _ (Oper.mk _ (Op.store _ _ _) _ _ _ _ :: _) _ _); refine wpList_put_arr rfl 56 (.tmp 4) (.tmp 8) rfl rfl (g + 1) 56 _ #[.bool true, .int .i64 0, .string ⟨#[]⟩] rfl rfl HR1.out Try.n56 rfl (by simp [Value.oneCell']) ?_))
    try simp only [Exit.inBlock, Exit.then]
    refine bodyPost_ret (results_cell_row (p := 4) (ty := 56) rfl _ _ (g + 1) 56 #[.bool true, .int .i64 0, .string ⟨#[]⟩] (0, 0) _ rfl (Row.setRow HR1.out _) Try.underlying56 rfl Try.n56) rfl ?_
    exact ⟨⟨Vl.mk _ _ _, rfl⟩, HBP.out _⟩
  | true =>
    go_wp2_with (first | ((with_reducible show wpList _ _ _ (Oper.mk _ (Op.load _ _) _ _ _ _ :: _) _ _); (refine wpList_load_row rfl 56 (.tmp 2) rfl g rfl 56 (vlc x).toArray (0, 0) _ HR0.out Try.underlying56 rfl Try.n56 ?_)))
    refine (fit_any x t _).mono ?_
    rintro e w5 ⟨⟨y, rfl⟩, b5⟩
    have HR5 := Lib.hid (HR1.out.below b5 HR1.out.lt)
    have HB5 := Lib.hid (bel_tr HB.out b5)
    go_wp2_with (first | ((with_reducible show wpList _ _ _ (Oper.mk _ (Op.store _ _ _) _ _ _ _ :: _) _ _); refine wpList_put_arr rfl 56 (.tmp 4) (.tmp 11) rfl rfl (g + 1) 56 _ (vlc y).toArray rfl rfl HR5.out Try.n56 rfl (one_vl y) ?_))
    try simp only [Exit.inBlock, Exit.then]
    refine bodyPost_ret (results_cell_row (p := 4) (ty := 56) rfl _ _ (g + 1) 56 (vlc y).toArray (0, 0) _ rfl (Row.setRow HR5.out _) Try.underlying56 rfl Try.n56) rfl ?_
    exact ⟨⟨y, rfl⟩, below_putRow HB5.out (by have := EG.out; omega) _⟩
end Go.Proofs.Ytkonoojmhjinpaa
