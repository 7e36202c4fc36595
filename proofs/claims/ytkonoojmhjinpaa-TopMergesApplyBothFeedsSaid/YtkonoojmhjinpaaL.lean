/- Contracts: join. -/
import Derived.Test.YtkonoojmhjinpaaJ
set_option linter.all false
namespace Go.Proofs.Ytkonoojmhjinpaa
open Go.RowKit Go.Fen
set_option linter.unusedVariables false
set_option maxHeartbeats 4000000

set_option maxRecDepth 20000 in
theorem join_any (m : Nat) (v : Value) (ch : Ch) (w : World) (hm : m ≤ 996) (hS : Sch m w v) : Calls Try.prog 43 #[v, .agg (chc ch).toArray] w fun e w' => RetSE (m + 2) e w' ∧ Below w.heap.size w w' := by
  have HS := Lib.hid hS
  obtain ⟨a, F, c, nx, rfl, _⟩ := hS
  obtain ⟨n, hn⟩ : ∃ n, n = F.length := ⟨_, rfl⟩
  rw [← hn] at HS ⊢
  obtain ⟨g, eg⟩ : ∃ g, g = w.heap.size := ⟨_, rfl⟩
  obtain ⟨W0, hW0⟩ : ∃ W, W = w.alloc (.cells #[.slice a n c, .int .i64 nx] 31) := ⟨_, rfl⟩
  obtain ⟨W1, hW1⟩ : ∃ W, W = W0.alloc (.cells (chc ch).toArray 76) := ⟨_, rfl⟩
  obtain ⟨W2, hW2⟩ : ∃ W, W = W1.alloc (.cells #[.slice none 0 0, .int .i64 0] 31) := ⟨_, rfl⟩
  have z0 : W0.heap.size = g + 1 := by rw [hW0, eg]; simp
  have z1 : W1.heap.size = g + 1 + 1 := by rw [hW1, World.size_alloc, z0]
  have z2 : W2.heap.size = g + 1 + 1 + 1 := by rw [hW2, World.size_alloc, z1]
  have hb2 : Below w.heap.size w W2 := by rw [hW2, hW1, hW0]; exact (((Below.refl _ _).alloc (Nat.le_refl _) _).alloc (by simp) _).alloc (by simp <;> omega) _
  have R0 : Row W2 g 31 #[.slice a n c, .int .i64 nx] := by rw [hW2, hW1, hW0, eg]; exact ((Row.new w 31 _).alloc _).alloc _
  have R1 : Row W2 (g + 1) 76 (chc ch).toArray := by rw [hW2, hW1]; exact ((Row.new' 76 _ z0.symm).alloc _)
  have R2 : Row W2 (g + 1 + 1) 31 #[.slice none 0 0, .int .i64 0] := by rw [hW2]; exact (Row.new' 31 _ z1.symm)
  have HW0 := Lib.hid hW0
  have HW1 := Lib.hid hW1
  have HW2 := Lib.hid hW2
  have EG := Lib.hid eg
  have Z0 := Lib.hid z0
  have Z1 := Lib.hid z1
  have Z2 := Lib.hid z2
  have HN := Lib.hid hn
  have HRR1 := Lib.hid R1
  have HRR0 := Lib.hid R0
  have HRR2 := Lib.hid R2
  have HBW := Lib.hid hb2
  have HR0 := Lib.hid (fun X (h : Below W2.heap.size W2 X) => R0.below h R0.lt)
  have HR1 := Lib.hid (fun X (h : Below W2.heap.size W2 X) => R1.below h R1.lt)
  have HR2 := Lib.hid (fun X (h : Below W2.heap.size W2 X) => R2.below h R2.lt)
  have HSX := Lib.hid (fun X (h : Below W2.heap.size W2 X) => (HS.out.bel hb2).bel h)
  have HEND := Lib.hid (fun X cs (h : Below W2.heap.size W2 X) => below_putRow (bel_tr hb2 h) (show w.heap.size ≤ g + 1 + 1 by omega) cs)
  have HB := Lib.hid (Below.refl W2.heap.size W2)
  clear hW0 hW1 hW2 eg z0 z1 z2 hb2 R0 R1 R2 hn
  have q1 : W2.cell? ⟨g + 1, 1, none⟩ = some (.int .i64 ch.id) := (HR1.out _ HB.out).cell 1
  go_enter Try.func43, Try.ntmps43
  go_wp2_with (first | ((with_reducible show wpList _ _ _ (Oper.mk _ (Op.load _ _) _ _ _ _ :: _) _ _); (refine wpList_load_row rfl 31 (.tmp 2) rfl g rfl 31 #[.slice a n c, .int .i64 nx] (0, 0) _ (HR0.out _ HB.out) Try.underlying31 rfl Try.n31 ?_)) | ((with_reducible show wpList _ _ _ (Oper.mk _ (Op.box _ _) _ _ _ _ :: _) _ _); (first | (refine wpList_box_row rfl 31 (.tmp 0) rfl _ rfl g EG.out ?_; refine wpList_atE HW0.out ?_) | (refine wpList_box_row rfl 76 (.tmp 1) rfl _ rfl (g + 1) Z0.out.symm ?_; refine wpList_atE HW1.out ?_))) | ((with_reducible show wpList _ _ _ (Oper.mk _ (Op.alloc _) _ _ _ _ :: _) _ _); (refine wpList_alloc_row rfl 31 rfl #[.slice none 0 0, .int .i64 0] Try.z31 (g + 1 + 1) Z1.out.symm ?_; refine wpList_atE HW2.out ?_)))
  refine (field_any m _ ch.id _ (by omega) (HSX.out _ HB.out)).mono ?_
  rintro e w1 ⟨⟨f, b, rfl⟩, b1⟩
  have HB1 := Lib.hid (bel_tr HB.out b1)
  clear b1 q1
  obtain ⟨W3, hW3⟩ : ∃ W, W = w1.alloc (.cells (flc f).toArray 126) := ⟨_, rfl⟩
  obtain ⟨g3, hg3⟩ : ∃ x, x = w1.heap.size := ⟨_, rfl⟩
  have R3 : Row W3 g3 126 (flc f).toArray := by rw [hW3]; exact Row.new' 126 _ hg3
  have b3 : Below w1.heap.size w1 W3 := by rw [hW3]; exact (Below.refl _ _).alloc (Nat.le_refl _) _
  have HB3 := Lib.hid (bel_tr HB1.out b3)
  have HG3L := Lib.hid (show W2.heap.size ≤ g3 by rw [hg3]; exact HB1.out.size)
  have HR3 := Lib.hid (fun X (h : Below W3.heap.size W3 X) => R3.below h R3.lt)
  have HB33 := Lib.hid (Below.refl W3.heap.size W3)
  have HX3 := Lib.hid b3
  have HW3 := Lib.hid hW3
  have HG3 := Lib.hid hg3
  clear hW3 hg3 R3 b3
  have q2 : W3.cell? ⟨g + 1, 2, none⟩ = some (.int .i64 ch.wi) := (HR1.out _ HB3.out).cell 2
  go_wp2_with (first | ((with_reducible show wpList _ _ _ (Oper.mk _ (Op.load _ _) _ _ _ _ :: _) _ _); (refine wpList_load_row rfl 31 (.tmp 2) rfl g rfl 31 #[.slice a n c, .int .i64 nx] (0, 0) _ (HR0.out _ HB3.out) Try.underlying31 rfl Try.n31 ?_)) | ((with_reducible show wpList _ _ _ (Oper.mk _ (Op.alloc _) _ _ _ _ :: _) _ _); (refine wpList_new_row rfl rfl 126 6 (.tmp 16) rfl rfl rfl rfl g3 HG3.out (flc f).toArray rfl rfl _ Try.z126 Try.n126 rfl (one_fl _) ?_; refine wpList_atE HW3.out ?_)))
  refine (field_any m _ ch.wi _ (by omega) (HSX.out _ HB3.out)).mono ?_
  rintro e w4 ⟨⟨h, b2, rfl⟩, b4⟩
  have HB4 := Lib.hid (bel_tr HB3.out b4)
  have HX4 := Lib.hid b4
  clear b4 q2
  obtain ⟨W5, hW5⟩ : ∃ W, W = w4.alloc (.cells (flc h).toArray 126) := ⟨_, rfl⟩
  obtain ⟨g5, hg5⟩ : ∃ x, x = w4.heap.size := ⟨_, rfl⟩
  have R5 : Row W5 g5 126 (flc h).toArray := by rw [hW5]; exact Row.new' 126 _ hg5
  have b5 : Below w4.heap.size w4 W5 := by rw [hW5]; exact (Below.refl _ _).alloc (Nat.le_refl _) _
  have HB5 := Lib.hid (bel_tr HB4.out b5)
  have HG5L := Lib.hid (show W2.heap.size ≤ g5 by rw [hg5]; exact HB4.out.size)
  have HR5 := Lib.hid (fun X (h : Below W5.heap.size W5 X) => R5.below h R5.lt)
  have HB55 := Lib.hid (Below.refl W5.heap.size W5)
  have HX5 := Lib.hid b5
  have HW5 := Lib.hid hW5
  have HG5 := Lib.hid hg5
  clear hW5 hg5 R5 b5
  have HX35 := Lib.hid (bel_tr HX4.out HX5.out)
  have v0 : W5.cell? ⟨g3, 0, none⟩ = some (.int .i64 f.id) := (HR3.out _ HX35.out).cell 0
  have v2 : W5.cell? ⟨g3, 2, none⟩ = some (.int .i64 f.ty) := (HR3.out _ HX35.out).cell 2
  have v3 : W5.cell? ⟨g3, 3, none⟩ = some (.int .i64 f.pa) := (HR3.out _ HX35.out).cell 3
  have y0 : W5.cell? ⟨g5, 0, none⟩ = some (.int .i64 h.id) := (HR5.out _ HB55.out).cell 0
  have y2 : W5.cell? ⟨g5, 2, none⟩ = some (.int .i64 h.ty) := (HR5.out _ HB55.out).cell 2
  have y3 : W5.cell? ⟨g5, 3, none⟩ = some (.int .i64 h.pa) := (HR5.out _ HB55.out).cell 3
  cases b with
  | false =>
    go_wp2_with (first | ((with_reducible show wpList _ _ _ (Oper.mk _ (Op.alloc _) _ _ _ _ :: _) _ _); (refine wpList_new_row rfl rfl 126 8 (.tmp 23) rfl rfl rfl rfl g5 HG5.out (flc h).toArray rfl rfl _ Try.z126 Try.n126 rfl (one_fl _) ?_; refine wpList_atE HW5.out ?_)) | ((with_reducible show wpList _ _ _ (Oper.mk _ (Op.store _ _ _) _ _ _ _ :: _) _ _); refine wpList_put_arr rfl 31 (.tmp 4) (.tmp 38) rfl rfl (g + 1 + 1) 31 _ #[.slice none 0 0, .int .i64 0] rfl rfl (HR2.out _ HB5.out) Try.n31 rfl (one_sch _ _ _ _) ?_))
    try simp only [Exit.inBlock, Exit.then]
    refine bodyPost_ret (results_cell_slot (p := 4) (q := 5) (ty := 31) rfl _ _ (g + 1 + 1) 31 #[.slice none 0 0, .int .i64 0] (0, 0) _ rfl (Row.setRow (HR2.out _ HB5.out) _) Try.underlying31 rfl Try.n31) rfl ?_
    exact ⟨⟨_, _, rfl, sch_nil _ _⟩, HEND.out _ _ HB5.out⟩
  | true =>
  cases b2 with
  | false =>
    go_wp2_with (first | ((with_reducible show wpList _ _ _ (Oper.mk _ (Op.alloc _) _ _ _ _ :: _) _ _); (refine wpList_new_row rfl rfl 126 8 (.tmp 23) rfl rfl rfl rfl g5 HG5.out (flc h).toArray rfl rfl _ Try.z126 Try.n126 rfl (one_fl _) ?_; refine wpList_atE HW5.out ?_)) | ((with_reducible show wpList _ _ _ (Oper.mk _ (Op.store _ _ _) _ _ _ _ :: _) _ _); refine wpList_put_arr rfl 31 (.tmp 4) (.tmp 38) rfl rfl (g + 1 + 1) 31 _ #[.slice none 0 0, .int .i64 0] rfl rfl (HR2.out _ HB5.out) Try.n31 rfl (one_sch _ _ _ _) ?_))
    try simp only [Exit.inBlock, Exit.then]
    refine bodyPost_ret (results_cell_slot (p := 4) (q := 5) (ty := 31) rfl _ _ (g + 1 + 1) 31 #[.slice none 0 0, .int .i64 0] (0, 0) _ rfl (Row.setRow (HR2.out _ HB5.out) _) Try.underlying31 rfl Try.n31) rfl ?_
    exact ⟨⟨_, _, rfl, sch_nil _ _⟩, HEND.out _ _ HB5.out⟩
  | true =>
  by_cases i1 : f.id = h.id
  · have d1 : (f.id == h.id) = true := by simp [i1]
    clear i1
    go_wp2_with (first | ((with_reducible show wpList _ _ _ (Oper.mk _ (Op.alloc _) _ _ _ _ :: _) _ _); (refine wpList_new_row rfl rfl 126 8 (.tmp 23) rfl rfl rfl rfl g5 HG5.out (flc h).toArray rfl rfl _ Try.z126 Try.n126 rfl (one_fl _) ?_; refine wpList_atE HW5.out ?_)) | ((with_reducible show wpList _ _ _ (Oper.mk _ (Op.store _ _ _) _ _ _ _ :: _) _ _); refine wpList_put_arr rfl 31 (.tmp 4) (.tmp 38) rfl rfl (g + 1 + 1) 31 _ #[.slice none 0 0, .int .i64 0] rfl rfl (HR2.out _ HB5.out) Try.n31 rfl (one_sch _ _ _ _) ?_))
    try simp only [Exit.inBlock, Exit.then]
    refine bodyPost_ret (results_cell_slot (p := 4) (q := 5) (ty := 31) rfl _ _ (g + 1 + 1) 31 #[.slice none 0 0, .int .i64 0] (0, 0) _ rfl (Row.setRow (HR2.out _ HB5.out) _) Try.underlying31 rfl Try.n31) rfl ?_
    exact ⟨⟨_, _, rfl, sch_nil _ _⟩, HEND.out _ _ HB5.out⟩
  have d1 : (f.id == h.id) = false := by simp [i1]
  clear i1
  by_cases t4 : f.ty = 4
  case neg =>
    have d4 : (f.ty != 4) = true := by simp [t4]
    clear t4
    go_wp2_with (first | ((with_reducible show wpList _ _ _ (Oper.mk _ (Op.alloc _) _ _ _ _ :: _) _ _); (refine wpList_new_row rfl rfl 126 8 (.tmp 23) rfl rfl rfl rfl g5 HG5.out (flc h).toArray rfl rfl _ Try.z126 Try.n126 rfl (one_fl _) ?_; refine wpList_atE HW5.out ?_)) | ((with_reducible show wpList _ _ _ (Oper.mk _ (Op.store _ _ _) _ _ _ _ :: _) _ _); refine wpList_put_arr rfl 31 (.tmp 4) (.tmp 47) rfl rfl (g + 1 + 1) 31 _ #[.slice none 0 0, .int .i64 0] rfl rfl (HR2.out _ HB5.out) Try.n31 rfl (one_sch _ _ _ _) ?_))
    try simp only [Exit.inBlock, Exit.then]
    refine bodyPost_ret (results_cell_slot (p := 4) (q := 5) (ty := 31) rfl _ _ (g + 1 + 1) 31 #[.slice none 0 0, .int .i64 0] (0, 0) _ rfl (Row.setRow (HR2.out _ HB5.out) _) Try.underlying31 rfl Try.n31) rfl ?_
    exact ⟨⟨_, _, rfl, sch_nil _ _⟩, HEND.out _ _ HB5.out⟩
  have d4 : (f.ty != 4) = false := by simp [t4]
  clear t4
  by_cases t5 : h.ty = 4
  case neg =>
    have d5 : (h.ty != 4) = true := by simp [t5]
    clear t5
    go_wp2_with (first | ((with_reducible show wpList _ _ _ (Oper.mk _ (Op.alloc _) _ _ _ _ :: _) _ _); (refine wpList_new_row rfl rfl 126 8 (.tmp 23) rfl rfl rfl rfl g5 HG5.out (flc h).toArray rfl rfl _ Try.z126 Try.n126 rfl (one_fl _) ?_; refine wpList_atE HW5.out ?_)) | ((with_reducible show wpList _ _ _ (Oper.mk _ (Op.store _ _ _) _ _ _ _ :: _) _ _); refine wpList_put_arr rfl 31 (.tmp 4) (.tmp 47) rfl rfl (g + 1 + 1) 31 _ #[.slice none 0 0, .int .i64 0] rfl rfl (HR2.out _ HB5.out) Try.n31 rfl (one_sch _ _ _ _) ?_))
    try simp only [Exit.inBlock, Exit.then]
    refine bodyPost_ret (results_cell_slot (p := 4) (q := 5) (ty := 31) rfl _ _ (g + 1 + 1) 31 #[.slice none 0 0, .int .i64 0] (0, 0) _ rfl (Row.setRow (HR2.out _ HB5.out) _) Try.underlying31 rfl Try.n31) rfl ?_
    exact ⟨⟨_, _, rfl, sch_nil _ _⟩, HEND.out _ _ HB5.out⟩
  have d5 : (h.ty != 4) = false := by simp [t5]
  clear t5
  by_cases t6 : f.pa = h.pa
  case neg =>
    have d6 : (f.pa != h.pa) = true := by simp [t6]
    clear t6
    go_wp2_with (first | ((with_reducible show wpList _ _ _ (Oper.mk _ (Op.alloc _) _ _ _ _ :: _) _ _); (refine wpList_new_row rfl rfl 126 8 (.tmp 23) rfl rfl rfl rfl g5 HG5.out (flc h).toArray rfl rfl _ Try.z126 Try.n126 rfl (one_fl _) ?_; refine wpList_atE HW5.out ?_)) | ((with_reducible show wpList _ _ _ (Oper.mk _ (Op.store _ _ _) _ _ _ _ :: _) _ _); refine wpList_put_arr rfl 31 (.tmp 4) (.tmp 53) rfl rfl (g + 1 + 1) 31 _ #[.slice none 0 0, .int .i64 0] rfl rfl (HR2.out _ HB5.out) Try.n31 rfl (one_sch _ _ _ _) ?_))
    try simp only [Exit.inBlock, Exit.then]
    refine bodyPost_ret (results_cell_slot (p := 4) (q := 5) (ty := 31) rfl _ _ (g + 1 + 1) 31 #[.slice none 0 0, .int .i64 0] (0, 0) _ rfl (Row.setRow (HR2.out _ HB5.out) _) Try.underlying31 rfl Try.n31) rfl ?_
    exact ⟨⟨_, _, rfl, sch_nil _ _⟩, HEND.out _ _ HB5.out⟩
  have d6 : (f.pa != h.pa) = false := by simp [t6]
  clear t6
  have q7 : W5.cell? ⟨g + 1, 7, none⟩ = some (.string ch.sp) := (HR1.out _ HB5.out).cell 7
  go_wp2_with (first | ((with_reducible show wpList _ _ _ (Oper.mk _ (Op.alloc _) _ _ _ _ :: _) _ _); (refine wpList_new_row rfl rfl 126 8 (.tmp 23) rfl rfl rfl rfl g5 HG5.out (flc h).toArray rfl rfl _ Try.z126 Try.n126 rfl (one_fl _) ?_; refine wpList_atE HW5.out ?_)))
  refine (sep_any ch.sp _).mono ?_
  rintro e w6 ⟨⟨b, rfl⟩, hw⟩
  rw [hw]
  clear hw v2 q7 v0 y0 y2 y3
  cases b with
  | false =>
    go_wp2_with (first | ((with_reducible show wpList _ _ _ (Oper.mk _ (Op.store _ _ _) _ _ _ _ :: _) _ _); refine wpList_put_arr rfl 31 (.tmp 4) (.tmp 58) rfl rfl (g + 1 + 1) 31 _ #[.slice none 0 0, .int .i64 0] rfl rfl (HR2.out _ HB5.out) Try.n31 rfl (one_sch _ _ _ _) ?_))
    try simp only [Exit.inBlock, Exit.then]
    refine bodyPost_ret (results_cell_slot (p := 4) (q := 5) (ty := 31) rfl _ _ (g + 1 + 1) 31 #[.slice none 0 0, .int .i64 0] (0, 0) _ rfl (Row.setRow (HR2.out _ HB5.out) _) Try.underlying31 rfl Try.n31) rfl ?_
    exact ⟨⟨_, _, rfl, sch_nil _ _⟩, HEND.out _ _ HB5.out⟩
  | true =>
  have q3 : W5.cell? ⟨g + 1, 3, none⟩ = some (.string ch.nm) := (HR1.out _ HB5.out).cell 3
  obtain ⟨fa, hfa⟩ : ∃ x, x = Fl.mk 0 ch.nm ch.hn 4 f.pa := ⟨_, rfl⟩
  have fa0 : (.agg (flc fa).toArray : Value) = .agg #[.int .i64 0, .string ch.nm, .int .i64 4, .int .i64 f.pa] := by rw [hfa]; rfl
  have HFA := Lib.hid fa0.symm
  clear fa0 hfa
  obtain ⟨W6, hW6⟩ : ∃ W, W = W5.alloc (.cells (flc fa).toArray 126) := ⟨_, rfl⟩
  obtain ⟨g6, hg6⟩ : ∃ x, x = W5.heap.size := ⟨_, rfl⟩
  have R6 : Row W6 g6 126 (flc fa).toArray := by rw [hW6]; exact Row.new' 126 _ hg6
  have b6 : Below W5.heap.size W5 W6 := by rw [hW6]; exact (Below.refl _ _).alloc (Nat.le_refl _) _
  have HB6 := Lib.hid (bel_tr HB5.out b6)
  have HG6L := Lib.hid (show W2.heap.size ≤ g6 by rw [hg6]; exact HB5.out.size)
  have HR6 := Lib.hid (fun X (h : Below W6.heap.size W6 X) => R6.below h R6.lt)
  have HB66 := Lib.hid (Below.refl W6.heap.size W6)
  have HX6 := Lib.hid b6
  have HW6 := Lib.hid hW6
  have HG6 := Lib.hid hg6
  clear hW6 hg6 R6 b6
  have v0 : W6.cell? ⟨g3, 0, none⟩ = some (.int .i64 f.id) := (HR3.out _ (bel_tr HX35.out HX6.out)).cell 0
  have y0 : W6.cell? ⟨g5, 0, none⟩ = some (.int .i64 h.id) := (HR5.out _ HX6.out).cell 0
  go_wp2_with (first | ((with_reducible show wpList _ _ _ (Oper.mk _ (Op.alloc _) _ _ _ _ :: _) _ _); (refine wpList_new_row rfl rfl 126 10 (.tmp 63) rfl rfl rfl rfl g6 HG6.out (flc fa).toArray rfl HFA.out _ Try.z126 Try.n126 rfl (one_fl _) ?_; refine wpList_atE HW6.out ?_)) | ((with_reducible show wpList _ _ _ (Oper.mk _ (Op.load _ _) _ _ _ _ :: _) _ _); first | (refine wpList_load_row rfl 31 (.tmp 2) rfl g rfl 31 #[.slice a n c, .int .i64 nx] (0, 0) _ (HR0.out _ HB6.out) Try.underlying31 rfl Try.n31 ?_) | (refine wpList_load_row rfl 126 (.tmp 10) rfl g6 rfl 126 (flc fa).toArray (0, 0) _ (HR6.out _ HB66.out) Try.underlying126 rfl Try.n126 ?_)))
  refine (taken_any m _ fa f.id h.id _ (by omega) (HSX.out _ HB6.out)).mono ?_
  rintro e w7 ⟨⟨b, rfl⟩, b7⟩
  have HB7 := Lib.hid (bel_tr HB6.out b7)
  have HX7 := Lib.hid b7
  clear b7 v0 q3 v3 y0
  cases b with
  | true =>
    go_wp2_with (first | ((with_reducible show wpList _ _ _ (Oper.mk _ (Op.store _ _ _) _ _ _ _ :: _) _ _); refine wpList_put_arr rfl 31 (.tmp 4) (.tmp 72) rfl rfl (g + 1 + 1) 31 _ #[.slice none 0 0, .int .i64 0] rfl rfl (HR2.out _ HB7.out) Try.n31 rfl (one_sch _ _ _ _) ?_))
    try simp only [Exit.inBlock, Exit.then]
    refine bodyPost_ret (results_cell_slot (p := 4) (q := 5) (ty := 31) rfl _ _ (g + 1 + 1) 31 #[.slice none 0 0, .int .i64 0] (0, 0) _ rfl (Row.setRow (HR2.out _ HB7.out) _) Try.underlying31 rfl Try.n31) rfl ?_
    exact ⟨⟨_, _, rfl, sch_nil _ _⟩, HEND.out _ _ HB7.out⟩
  | false =>
  have r1 : w7.cell? ⟨g, 1, none⟩ = some (.int .i64 nx) := (HR0.out _ HB7.out).cell 1
  by_cases hx : 1073741824 ≤ nx
  case pos =>
    have d : decide (1073741824 ≤ nx) = true := decide_eq_true hx
    go_wp2_with (first | ((with_reducible show wpList _ _ _ (Oper.mk _ (Op.store _ _ _) _ _ _ _ :: _) _ _); refine wpList_put_arr rfl 31 (.tmp 4) (.tmp 76) rfl rfl (g + 1 + 1) 31 _ #[.slice none 0 0, .int .i64 0] rfl rfl (HR2.out _ HB7.out) Try.n31 rfl (one_sch _ _ _ _) ?_))
    try simp only [Exit.inBlock, Exit.then]
    refine bodyPost_ret (results_cell_slot (p := 4) (q := 5) (ty := 31) rfl _ _ (g + 1 + 1) 31 #[.slice none 0 0, .int .i64 0] (0, 0) _ rfl (Row.setRow (HR2.out _ HB7.out) _) Try.underlying31 rfl Try.n31) rfl ?_
    exact ⟨⟨_, _, rfl, sch_nil _ _⟩, HEND.out _ _ HB7.out⟩
  have d : decide (1073741824 ≤ nx) = false := decide_eq_false hx
  have HKEEP := Lib.hid (fun X (hX : Below w7.heap.size w7 X) => (⟨(HR0.out _ (bel_tr HB7.out hX)).cell 0, (HR0.out _ (bel_tr HB7.out hX)).cell 1, (HR3.out _ (bel_tr HX35.out (bel_tr HX6.out (bel_tr HX7.out hX)))).cell 0, (HR5.out _ (bel_tr HX6.out (bel_tr HX7.out hX))).cell 0, (HR6.out _ (bel_tr HX7.out hX)).cell 0, (HR6.out _ (bel_tr HX7.out hX)).cell 1, (HR6.out _ (bel_tr HX7.out hX)).cell 2, (HR6.out _ (bel_tr HX7.out hX)).cell 3⟩ :
    X.cell? ⟨g, 0, none⟩ = some (.slice a n c) ∧ X.cell? ⟨g, 1, none⟩ = some (.int .i64 nx) ∧ X.cell? ⟨g3, 0, none⟩ = some (.int .i64 f.id) ∧ X.cell? ⟨g5, 0, none⟩ = some (.int .i64 h.id) ∧ X.cell? ⟨g6, 0, none⟩ = some (.int .i64 fa.id) ∧ X.cell? ⟨g6, 1, none⟩ = some (.string fa.nm) ∧ X.cell? ⟨g6, 2, none⟩ = some (.int .i64 fa.ty) ∧ X.cell? ⟨g6, 3, none⟩ = some (.int .i64 fa.pa)))
  clear r1
  obtain ⟨x0, x1, x2, x3, x4, x5, x6, x7⟩ := HKEEP.out w7 (Below.refl _ _)
  go_wp2_with fail
  have nn3 : ¬ g3 = g + 1 + 1 := by have := HG3L.out; have := Z2.out; omega
  have nn5 : ¬ g5 = g + 1 + 1 := by have := HG5L.out; have := Z2.out; omega
  have nn6 : ¬ g6 = g + 1 + 1 := by have := HG6L.out; have := Z2.out; omega
  have mm3 : ¬ g + 1 + 1 = g3 := by omega
  have mm5 : ¬ g + 1 + 1 = g5 := by omega
  have mm6 : ¬ g + 1 + 1 = g6 := by omega
  go_region_held3 (fun X => X.cell? ⟨g, 0, none⟩ = some (.slice a n c) ∧ X.cell? ⟨g, 1, none⟩ = some (.int .i64 nx) ∧ X.cell? ⟨g3, 0, none⟩ = some (.int .i64 f.id) ∧ X.cell? ⟨g5, 0, none⟩ = some (.int .i64 h.id) ∧ X.cell? ⟨g6, 0, none⟩ = some (.int .i64 fa.id) ∧ X.cell? ⟨g6, 1, none⟩ = some (.string fa.nm) ∧ X.cell? ⟨g6, 2, none⟩ = some (.int .i64 fa.ty) ∧ X.cell? ⟨g6, 3, none⟩ = some (.int .i64 fa.pa)) (go_keep) (first | (go_simp; go_at_call 63; refine (without_any m _ f.id h.id _ (by omega) (HSX.out _ (below_drewN HB7.out 1))).mono ?_; rintro e w8 ⟨⟨v8, rfl, s8⟩, b8⟩; have HX8 := Lib.hid ((below_drewN (Below.refl w7.heap.size w7) 1).trans b8); have kk := HKEEP.out w8 HX8.out; have HS8 := Lib.hid s8; clear s8 b8) | (go_simp; go_at_call 61; refine (plus_any m _ fa _ (by omega) HS8.out).mono ?_; rintro e w10 ⟨⟨v10, rfl, s10⟩, b10⟩; have HX10 := Lib.hid (bel_tr HX8.out b10); have HB10 := Lib.hid (bel_tr HB7.out HX10.out); have kk := HKEEP.out w10 HX10.out; have HS5 := Lib.hid s10; obtain ⟨a5, F5, c5, nx5, rfl, _⟩ := s10; clear b10; have p0 : w10.cell? ⟨g + 1 + 1, 0, none⟩ = some (.slice none 0 0) := (HR2.out _ HB10.out).cell 0; have p1 : w10.cell? ⟨g + 1 + 1, 1, none⟩ = some (.int .i64 0) := (HR2.out _ HB10.out).cell 1; have p2 := (HR2.out _ HB10.out).frozen 0; have p3 := (HR2.out _ HB10.out).frozen 1; have kz0 := (cell_set2 (w := w10) (g := g + 1 + 1) (h := g) (i := 0) (u := .slice a5 F5.length c5) (v := .int .i64 nx5) (by omega)).trans kk.1; have kz1 := (cell_set2 (w := w10) (g := g + 1 + 1) (h := g) (i := 1) (u := .slice a5 F5.length c5) (v := .int .i64 nx5) (by omega)).trans kk.2.1))
  go_wp2_with fail
  try simp only [Exit.inBlock, Exit.then]
  refine bodyPost_ret (results_cell_slot (p := 4) (q := 5) (ty := 31) rfl _ _ (g + 1 + 1) 31 #[.slice a5 F5.length c5, .int .i64 nx5] (0, 0) _ rfl (((HR2.out _ HB10.out).set 0 _).set 1 _) Try.underlying31 rfl Try.n31) rfl ?_
  exact ⟨⟨_, _, rfl, (HS5.out.set2 (HR2.out _ HB10.out) _ _).le (by omega)⟩, ((bel_tr HBW.out HB10.out).setCell (p := ⟨g + 1 + 1, 0, none⟩) (by have := EG.out; show w.heap.size ≤ g + 1 + 1; omega) _).setCell (p := ⟨g + 1 + 1, 1, none⟩) (by have := EG.out; show w.heap.size ≤ g + 1 + 1; omega) _⟩
end Go.Proofs.Ytkonoojmhjinpaa
