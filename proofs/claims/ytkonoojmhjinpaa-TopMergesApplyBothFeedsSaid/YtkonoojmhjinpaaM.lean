/- Contracts: Apply. -/
import Derived.Test.YtkonoojmhjinpaaL
set_option linter.all false
namespace Go.Proofs.Ytkonoojmhjinpaa
open Go.RowKit Go.Fen
set_option linter.unusedVariables false
set_option maxHeartbeats 4000000

set_option maxRecDepth 20000 in
theorem apply_any (m : Nat) (v : Value) (ch : Ch) (w : World) (hm : m ≤ 996) (hS : Sch m w v) : Calls Try.prog 17 #[v, .agg (chc ch).toArray] w fun e w' => RetSE (m + 2) e w' ∧ Below w.heap.size w w' := by
  have HS := Lib.hid hS
  obtain ⟨a, F, c, nx, rfl, _⟩ := hS
  obtain ⟨n, hn⟩ : ∃ n, n = F.length := ⟨_, rfl⟩
  rw [← hn] at HS ⊢
  obtain ⟨g, eg⟩ : ∃ g, g = w.heap.size := ⟨_, rfl⟩
  obtain ⟨W0, hW0⟩ : ∃ W, W = w.alloc (.cells #[.slice a n c, .int .i64 nx] 31) := ⟨_, rfl⟩
  obtain ⟨W1, hW1⟩ : ∃ W, W = W0.alloc (.cells (chc ch).toArray 76) := ⟨_, rfl⟩
  obtain ⟨W2, hW2⟩ : ∃ W, W = W1.alloc (.cells #[.slice none 0 0, .int .i64 0] 31) := ⟨_, rfl⟩
  have z0 : W0.heap.size = g + 1 := by rw [hW0, eg]; simp
  have z1 : W1.heap.size = g + 1 + 1 := by rw [hW1, World.size_alloc, z0]
  have z2 : W2.heap.size = g + 1 + 1 + 1 := by rw [hW2, World.size_alloc, z1]
  have hb2 : Below w.heap.size w W2 := by rw [hW2, hW1, hW0]; exact (((Below.refl _ _).alloc (Nat.le_refl _) _).alloc (by simp) _).alloc (by simp <;> omega) _
  have R0 : Row W2 g 31 #[.slice a n c, .int .i64 nx] := by rw [hW2, hW1, hW0, eg]; exact ((Row.new w 31 _).alloc _).alloc _
  have R1 : Row W2 (g + 1) 76 (chc ch).toArray := by rw [hW2, hW1]; exact ((Row.new' 76 _ z0.symm).alloc _)
  have R2 : Row W2 (g + 1 + 1) 31 #[.slice none 0 0, .int .i64 0] := by rw [hW2]; exact (Row.new' 31 _ z1.symm)
  have HW0 := Lib.hid hW0
  have HW1 := Lib.hid hW1
  have HW2 := Lib.hid hW2
  have EG := Lib.hid eg
  have Z0 := Lib.hid z0
  have Z1 := Lib.hid z1
  have Z2 := Lib.hid z2
  have HN := Lib.hid hn
  have HRR1 := Lib.hid R1
  have HRR0 := Lib.hid R0
  have HRR2 := Lib.hid R2
  have HBW := Lib.hid hb2
  have HR0 := Lib.hid (fun X (h : Below W2.heap.size W2 X) => R0.below h R0.lt)
  have HR1 := Lib.hid (fun X (h : Below W2.heap.size W2 X) => R1.below h R1.lt)
  have HR2 := Lib.hid (fun X (h : Below W2.heap.size W2 X) => R2.below h R2.lt)
  have HSX := Lib.hid (fun X (h : Below W2.heap.size W2 X) => (HS.out.bel hb2).bel h)
  have HEND := Lib.hid (fun X cs (h : Below W2.heap.size W2 X) => below_putRow (bel_tr hb2 h) (show w.heap.size ≤ g + 1 + 1 by omega) cs)
  have HB := Lib.hid (Below.refl W2.heap.size W2)
  clear hW0 hW1 hW2 eg z0 z1 z2 hb2 R0 R1 R2 hn
  have q0 : W2.cell? ⟨g + 1, 0, none⟩ = some (.int .i64 ch.k) := (HR1.out _ HB.out).cell 0
  go_enter Try.func17, Try.ntmps17
  go_upto_region 2 with (first | ((with_reducible show wpList _ _ _ (Oper.mk _ (Op.box _ _) _ _ _ _ :: _) _ _); (first | (refine wpList_box_row rfl 31 (.tmp 0) rfl _ rfl g EG.out ?_; refine wpList_atE HW0.out ?_) | (refine wpList_box_row rfl 76 (.tmp 1) rfl _ rfl (g + 1) Z0.out.symm ?_; refine wpList_atE HW1.out ?_))) | ((with_reducible show wpList _ _ _ (Oper.mk _ (Op.alloc _) _ _ _ _ :: _) _ _); (refine wpList_alloc_row rfl 31 rfl #[.slice none 0 0, .int .i64 0] Try.z31 (g + 1 + 1) Z1.out.symm ?_; refine wpList_atE HW2.out ?_)))
  by_cases k1 : ch.k = 1
  · have d1 : (ch.k == 1) = true := by simp [k1]
    clear k1
    go_wp2_with (first | ((with_reducible show wpList _ _ _ (Oper.mk _ (Op.load _ _) _ _ _ _ :: _) _ _); first | (refine wpList_load_row rfl 31 (.tmp 2) rfl g rfl 31 #[.slice a n c, .int .i64 nx] (0, 0) _ (HR0.out _ HB.out) Try.underlying31 rfl Try.n31 ?_) | (refine wpList_load_row rfl 76 (.tmp 3) rfl (g + 1) rfl 76 (chc ch).toArray (0, 0) _ (HR1.out _ HB.out) Try.underlying76 rfl Try.n76 ?_)))
    refine (add_any m _ ch _ (by omega) (HSX.out _ HB.out)).mono ?_
    rintro e w5 ⟨⟨v5, x5, rfl, s5⟩, b5⟩
    have HB5 := Lib.hid (bel_tr HB.out b5)
    have HS5 := Lib.hid s5
    obtain ⟨a5, F5, c5, nx5, rfl, _⟩ := s5
    clear b5
    go_wp2_with (first | ((with_reducible show wpList _ _ _ (Oper.mk _ (Op.store _ _ _) _ _ _ _ :: _) _ _); refine wpList_put_arr rfl 31 (.tmp 4) (.tmp 13) rfl rfl (g + 1 + 1) 31 _ #[.slice a5 F5.length c5, .int .i64 nx5] rfl rfl (HR2.out _ HB5.out) Try.n31 rfl (one_sch _ _ _ _) ?_))
    try simp only [Exit.inBlock, Exit.then]
    refine bodyPost_ret (results_cell_slot (p := 4) (q := 5) (ty := 31) rfl _ _ (g + 1 + 1) 31 #[.slice a5 F5.length c5, .int .i64 nx5] (0, 0) _ rfl (Row.setRow (HR2.out _ HB5.out) _) Try.underlying31 rfl Try.n31) rfl ?_
    exact ⟨⟨_, _, rfl, (HS5.out.put (HR2.out _ HB5.out) _).le (by omega)⟩, HEND.out _ _ HB5.out⟩
  have d1 : (ch.k == 1) = false := by simp [k1]
  clear k1
  by_cases k2 : ch.k = 2
  · have d2 : (ch.k == 2) = true := by simp [k2]
    clear k2
    go_wp2_with (first | ((with_reducible show wpList _ _ _ (Oper.mk _ (Op.load _ _) _ _ _ _ :: _) _ _); first | (refine wpList_load_row rfl 31 (.tmp 2) rfl g rfl 31 #[.slice a n c, .int .i64 nx] (0, 0) _ (HR0.out _ HB.out) Try.underlying31 rfl Try.n31 ?_) | (refine wpList_load_row rfl 76 (.tmp 3) rfl (g + 1) rfl 76 (chc ch).toArray (0, 0) _ (HR1.out _ HB.out) Try.underlying76 rfl Try.n76 ?_)))
    refine (one_any m _ ch _ (by omega) (HSX.out _ HB.out)).mono ?_
    rintro e w5 ⟨⟨v5, x5, rfl, s5⟩, b5⟩
    have HB5 := Lib.hid (bel_tr HB.out b5)
    have HS5 := Lib.hid s5
    obtain ⟨a5, F5, c5, nx5, rfl, _⟩ := s5
    clear b5
    go_wp2_with (first | ((with_reducible show wpList _ _ _ (Oper.mk _ (Op.store _ _ _) _ _ _ _ :: _) _ _); refine wpList_put_arr rfl 31 (.tmp 4) (.tmp 23) rfl rfl (g + 1 + 1) 31 _ #[.slice a5 F5.length c5, .int .i64 nx5] rfl rfl (HR2.out _ HB5.out) Try.n31 rfl (one_sch _ _ _ _) ?_))
    try simp only [Exit.inBlock, Exit.then]
    refine bodyPost_ret (results_cell_slot (p := 4) (q := 5) (ty := 31) rfl _ _ (g + 1 + 1) 31 #[.slice a5 F5.length c5, .int .i64 nx5] (0, 0) _ rfl (Row.setRow (HR2.out _ HB5.out) _) Try.underlying31 rfl Try.n31) rfl ?_
    exact ⟨⟨_, _, rfl, (HS5.out.put (HR2.out _ HB5.out) _).le (by omega)⟩, HEND.out _ _ HB5.out⟩
  have d2 : (ch.k == 2) = false := by simp [k2]
  clear k2
  by_cases k3 : ch.k = 3
  · have d3 : (ch.k == 3) = true := by simp [k3]
    clear k3
    go_wp2_with (first | ((with_reducible show wpList _ _ _ (Oper.mk _ (Op.load _ _) _ _ _ _ :: _) _ _); first | (refine wpList_load_row rfl 31 (.tmp 2) rfl g rfl 31 #[.slice a n c, .int .i64 nx] (0, 0) _ (HR0.out _ HB.out) Try.underlying31 rfl Try.n31 ?_) | (refine wpList_load_row rfl 76 (.tmp 3) rfl (g + 1) rfl 76 (chc ch).toArray (0, 0) _ (HR1.out _ HB.out) Try.underlying76 rfl Try.n76 ?_)))
    refine (one_any m _ ch _ (by omega) (HSX.out _ HB.out)).mono ?_
    rintro e w5 ⟨⟨v5, x5, rfl, s5⟩, b5⟩
    have HB5 := Lib.hid (bel_tr HB.out b5)
    have HS5 := Lib.hid s5
    obtain ⟨a5, F5, c5, nx5, rfl, _⟩ := s5
    clear b5
    go_wp2_with (first | ((with_reducible show wpList _ _ _ (Oper.mk _ (Op.store _ _ _) _ _ _ _ :: _) _ _); refine wpList_put_arr rfl 31 (.tmp 4) (.tmp 23) rfl rfl (g + 1 + 1) 31 _ #[.slice a5 F5.length c5, .int .i64 nx5] rfl rfl (HR2.out _ HB5.out) Try.n31 rfl (one_sch _ _ _ _) ?_))
    try simp only [Exit.inBlock, Exit.then]
    refine bodyPost_ret (results_cell_slot (p := 4) (q := 5) (ty := 31) rfl _ _ (g + 1 + 1) 31 #[.slice a5 F5.length c5, .int .i64 nx5] (0, 0) _ rfl (Row.setRow (HR2.out _ HB5.out) _) Try.underlying31 rfl Try.n31) rfl ?_
    exact ⟨⟨_, _, rfl, (HS5.out.put (HR2.out _ HB5.out) _).le (by omega)⟩, HEND.out _ _ HB5.out⟩
  have d3 : (ch.k == 3) = false := by simp [k3]
  clear k3
  by_cases k4 : ch.k = 4
  · have d4 : (ch.k == 4) = true := by simp [k4]
    clear k4
    go_wp2_with (first | ((with_reducible show wpList _ _ _ (Oper.mk _ (Op.load _ _) _ _ _ _ :: _) _ _); first | (refine wpList_load_row rfl 31 (.tmp 2) rfl g rfl 31 #[.slice a n c, .int .i64 nx] (0, 0) _ (HR0.out _ HB.out) Try.underlying31 rfl Try.n31 ?_) | (refine wpList_load_row rfl 76 (.tmp 3) rfl (g + 1) rfl 76 (chc ch).toArray (0, 0) _ (HR1.out _ HB.out) Try.underlying76 rfl Try.n76 ?_)))
    refine (one_any m _ ch _ (by omega) (HSX.out _ HB.out)).mono ?_
    rintro e w5 ⟨⟨v5, x5, rfl, s5⟩, b5⟩
    have HB5 := Lib.hid (bel_tr HB.out b5)
    have HS5 := Lib.hid s5
    obtain ⟨a5, F5, c5, nx5, rfl, _⟩ := s5
    clear b5
    go_wp2_with (first | ((with_reducible show wpList _ _ _ (Oper.mk _ (Op.store _ _ _) _ _ _ _ :: _) _ _); refine wpList_put_arr rfl 31 (.tmp 4) (.tmp 23) rfl rfl (g + 1 + 1) 31 _ #[.slice a5 F5.length c5, .int .i64 nx5] rfl rfl (HR2.out _ HB5.out) Try.n31 rfl (one_sch _ _ _ _) ?_))
    try simp only [Exit.inBlock, Exit.then]
    refine bodyPost_ret (results_cell_slot (p := 4) (q := 5) (ty := 31) rfl _ _ (g + 1 + 1) 31 #[.slice a5 F5.length c5, .int .i64 nx5] (0, 0) _ rfl (Row.setRow (HR2.out _ HB5.out) _) Try.underlying31 rfl Try.n31) rfl ?_
    exact ⟨⟨_, _, rfl, (HS5.out.put (HR2.out _ HB5.out) _).le (by omega)⟩, HEND.out _ _ HB5.out⟩
  have d4 : (ch.k == 4) = false := by simp [k4]
  clear k4
  by_cases k5 : ch.k = 5
  · have d5 : (ch.k == 5) = true := by simp [k5]
    clear k5
    go_wp2_with (first | ((with_reducible show wpList _ _ _ (Oper.mk _ (Op.load _ _) _ _ _ _ :: _) _ _); first | (refine wpList_load_row rfl 31 (.tmp 2) rfl g rfl 31 #[.slice a n c, .int .i64 nx] (0, 0) _ (HR0.out _ HB.out) Try.underlying31 rfl Try.n31 ?_) | (refine wpList_load_row rfl 76 (.tmp 3) rfl (g + 1) rfl 76 (chc ch).toArray (0, 0) _ (HR1.out _ HB.out) Try.underlying76 rfl Try.n76 ?_)))
    refine (one_any m _ ch _ (by omega) (HSX.out _ HB.out)).mono ?_
    rintro e w5 ⟨⟨v5, x5, rfl, s5⟩, b5⟩
    have HB5 := Lib.hid (bel_tr HB.out b5)
    have HS5 := Lib.hid s5
    obtain ⟨a5, F5, c5, nx5, rfl, _⟩ := s5
    clear b5
    go_wp2_with (first | ((with_reducible show wpList _ _ _ (Oper.mk _ (Op.store _ _ _) _ _ _ _ :: _) _ _); refine wpList_put_arr rfl 31 (.tmp 4) (.tmp 23) rfl rfl (g + 1 + 1) 31 _ #[.slice a5 F5.length c5, .int .i64 nx5] rfl rfl (HR2.out _ HB5.out) Try.n31 rfl (one_sch _ _ _ _) ?_))
    try simp only [Exit.inBlock, Exit.then]
    refine bodyPost_ret (results_cell_slot (p := 4) (q := 5) (ty := 31) rfl _ _ (g + 1 + 1) 31 #[.slice a5 F5.length c5, .int .i64 nx5] (0, 0) _ rfl (Row.setRow (HR2.out _ HB5.out) _) Try.underlying31 rfl Try.n31) rfl ?_
    exact ⟨⟨_, _, rfl, (HS5.out.put (HR2.out _ HB5.out) _).le (by omega)⟩, HEND.out _ _ HB5.out⟩
  have d5 : (ch.k == 5) = false := by simp [k5]
  clear k5
  by_cases k6 : ch.k = 6
  · have d6 : (ch.k == 6) = true := by simp [k6]
    clear k6
    go_wp2_with (first | ((with_reducible show wpList _ _ _ (Oper.mk _ (Op.load _ _) _ _ _ _ :: _) _ _); first | (refine wpList_load_row rfl 31 (.tmp 2) rfl g rfl 31 #[.slice a n c, .int .i64 nx] (0, 0) _ (HR0.out _ HB.out) Try.underlying31 rfl Try.n31 ?_) | (refine wpList_load_row rfl 76 (.tmp 3) rfl (g + 1) rfl 76 (chc ch).toArray (0, 0) _ (HR1.out _ HB.out) Try.underlying76 rfl Try.n76 ?_)))
    refine (split_any m _ ch _ (by omega) (HSX.out _ HB.out)).mono ?_
    rintro e w5 ⟨⟨v5, x5, rfl, s5⟩, b5⟩
    have HB5 := Lib.hid (bel_tr HB.out b5)
    have HS5 := Lib.hid s5
    obtain ⟨a5, F5, c5, nx5, rfl, _⟩ := s5
    clear b5
    go_wp2_with (first | ((with_reducible show wpList _ _ _ (Oper.mk _ (Op.store _ _ _) _ _ _ _ :: _) _ _); refine wpList_put_arr rfl 31 (.tmp 4) (.tmp 30) rfl rfl (g + 1 + 1) 31 _ #[.slice a5 F5.length c5, .int .i64 nx5] rfl rfl (HR2.out _ HB5.out) Try.n31 rfl (one_sch _ _ _ _) ?_))
    try simp only [Exit.inBlock, Exit.then]
    refine bodyPost_ret (results_cell_slot (p := 4) (q := 5) (ty := 31) rfl _ _ (g + 1 + 1) 31 #[.slice a5 F5.length c5, .int .i64 nx5] (0, 0) _ rfl (Row.setRow (HR2.out _ HB5.out) _) Try.underlying31 rfl Try.n31) rfl ?_
    exact ⟨⟨_, _, rfl, (HS5.out.put (HR2.out _ HB5.out) _).le (by omega)⟩, HEND.out _ _ HB5.out⟩
  have d6 : (ch.k == 6) = false := by simp [k6]
  clear k6
  by_cases k7 : ch.k = 7
  · have d7 : (ch.k == 7) = true := by simp [k7]
    clear k7
    go_wp2_with (first | ((with_reducible show wpList _ _ _ (Oper.mk _ (Op.load _ _) _ _ _ _ :: _) _ _); first | (refine wpList_load_row rfl 31 (.tmp 2) rfl g rfl 31 #[.slice a n c, .int .i64 nx] (0, 0) _ (HR0.out _ HB.out) Try.underlying31 rfl Try.n31 ?_) | (refine wpList_load_row rfl 76 (.tmp 3) rfl (g + 1) rfl 76 (chc ch).toArray (0, 0) _ (HR1.out _ HB.out) Try.underlying76 rfl Try.n76 ?_)))
    refine (join_any m _ ch _ (by omega) (HSX.out _ HB.out)).mono ?_
    rintro e w5 ⟨⟨v5, x5, rfl, s5⟩, b5⟩
    have HB5 := Lib.hid (bel_tr HB.out b5)
    have HS5 := Lib.hid s5
    obtain ⟨a5, F5, c5, nx5, rfl, _⟩ := s5
    clear b5
    go_wp2_with (first | ((with_reducible show wpList _ _ _ (Oper.mk _ (Op.store _ _ _) _ _ _ _ :: _) _ _); refine wpList_put_arr rfl 31 (.tmp 4) (.tmp 37) rfl rfl (g + 1 + 1) 31 _ #[.slice a5 F5.length c5, .int .i64 nx5] rfl rfl (HR2.out _ HB5.out) Try.n31 rfl (one_sch _ _ _ _) ?_))
    try simp only [Exit.inBlock, Exit.then]
    refine bodyPost_ret (results_cell_slot (p := 4) (q := 5) (ty := 31) rfl _ _ (g + 1 + 1) 31 #[.slice a5 F5.length c5, .int .i64 nx5] (0, 0) _ rfl (Row.setRow (HR2.out _ HB5.out) _) Try.underlying31 rfl Try.n31) rfl ?_
    exact ⟨⟨_, _, rfl, (HS5.out.put (HR2.out _ HB5.out) _).le (by omega)⟩, HEND.out _ _ HB5.out⟩
  have d7 : (ch.k == 7) = false := by simp [k7]
  clear k7
  go_wp2_with (first | ((with_reducible show wpList _ _ _ (Oper.mk _ (Op.store _ _ _) _ _ _ _ :: _) _ _); refine wpList_put_arr rfl 31 (.tmp 4) (.tmp 39) rfl rfl (g + 1 + 1) 31 _ #[.slice none 0 0, .int .i64 0] rfl rfl (HR2.out _ HB.out) Try.n31 rfl (one_sch _ _ _ _) ?_))
  try simp only [Exit.inBlock, Exit.then]
  refine bodyPost_ret (results_cell_slot (p := 4) (q := 5) (ty := 31) rfl _ _ (g + 1 + 1) 31 #[.slice none 0 0, .int .i64 0] (0, 0) _ rfl (Row.setRow (HR2.out _ HB.out) _) Try.underlying31 rfl Try.n31) rfl ?_
  exact ⟨⟨_, _, rfl, sch_nil _ _⟩, HEND.out _ _ HB.out⟩
end Go.Proofs.Ytkonoojmhjinpaa
