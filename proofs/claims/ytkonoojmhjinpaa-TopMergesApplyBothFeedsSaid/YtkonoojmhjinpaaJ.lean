/- Contracts: split, join. -/
import Derived.Test.YtkonoojmhjinpaaI
set_option linter.all false
namespace Go.Proofs.Ytkonoojmhjinpaa
open Go.RowKit Go.Fen
set_option linter.unusedVariables false
set_option maxHeartbeats 4000000

/-- all blocks but g are as they were -/
theorem Sch.but {m : Nat} {w w' : World} {v : Value} {g : Nat} {p : Option Addr} {n c : Nat} {x : Int} (h : Sch m w v) (hr : Row w g 31 #[.slice p n c, .int .i64 x]) (hs : w.heap.size ≤ w'.heap.size) (hw : ∀ k, k ≠ g → w'.heap[k]? = w.heap[k]?) : Sch m w' v := by
  obtain ⟨a, F, c, nx, e, h1, h4⟩ := h
  refine ⟨a, F, c, nx, e, h1, ?_⟩
  exact h4.but hr (by decide) hs fun k _ hk => hw k hk
theorem Sch.set2 {m : Nat} {w : World} {v : Value} {g : Nat} {p : Option Addr} {n c : Nat} {x : Int} (h : Sch m w v) (hr : Row w g 31 #[.slice p n c, .int .i64 x]) (y z : Value) : Sch m ((w.setCell ⟨g, 0, none⟩ y).setCell ⟨g, 1, none⟩ z) v :=
  h.but hr (by simp) (fun k hk => (Below.heap_setCell _ _ _ _ hk).trans (Below.heap_setCell _ _ _ _ hk))
theorem cell_set2 {w : World} {g h i : Nat} {u v : Value} (hne : h ≠ g) : ((w.setCell ⟨g, 0, none⟩ u).setCell ⟨g, 1, none⟩ v).cell? ⟨h, i, none⟩ = w.cell? ⟨h, i, none⟩ :=
  World.cell?_of_block (a := ⟨h, i, none⟩) ((Below.heap_setCell _ _ _ _ hne).trans (Below.heap_setCell _ _ _ _ hne))
theorem one_fl4 (f : Fl) : flc f = [.int .i64 f.id, .string f.nm, .int .i64 f.ty, .int .i64 f.pa] := rfl

set_option maxRecDepth 20000 in
theorem split_any (m : Nat) (v : Value) (ch : Ch) (w : World) (hm : m ≤ 996) (hS : Sch m w v) : Calls Try.prog 42 #[v, .agg (chc ch).toArray] w fun e w' => RetSE (m + 2) e w' ∧ Below w.heap.size w w' := by
  have HS := Lib.hid hS
  obtain ⟨a, F, c, nx, rfl, _⟩ := hS
  obtain ⟨n, hn⟩ : ∃ n, n = F.length := ⟨_, rfl⟩
  rw [← hn] at HS ⊢
  obtain ⟨g, eg⟩ : ∃ g, g = w.heap.size := ⟨_, rfl⟩
  obtain ⟨W0, hW0⟩ : ∃ W, W = w.alloc (.cells #[.slice a n c, .int .i64 nx] 31) := ⟨_, rfl⟩
  obtain ⟨W1, hW1⟩ : ∃ W, W = W0.alloc (.cells (chc ch).toArray 76) := ⟨_, rfl⟩
  obtain ⟨W2, hW2⟩ : ∃ W, W = W1.alloc (.cells #[.slice none 0 0, .int .i64 0] 31) := ⟨_, rfl⟩
  have z0 : W0.heap.size = g + 1 := by rw [hW0, eg]; simp
  have z1 : W1.heap.size = g + 1 + 1 := by rw [hW1, World.size_alloc, z0]
  have z2 : W2.heap.size = g + 1 + 1 + 1 := by rw [hW2, World.size_alloc, z1]
  have hb2 : Below w.heap.size w W2 := by rw [hW2, hW1, hW0]; exact (((Below.refl _ _).alloc (Nat.le_refl _) _).alloc (by simp) _).alloc (by simp <;> omega) _
  have R0 : Row W2 g 31 #[.slice a n c, .int .i64 nx] := by rw [hW2, hW1, hW0, eg]; exact ((Row.new w 31 _).alloc _).alloc _
  have R1 : Row W2 (g + 1) 76 (chc ch).toArray := by rw [hW2, hW1]; exact ((Row.new' 76 _ z0.symm).alloc _)
  have R2 : Row W2 (g + 1 + 1) 31 #[.slice none 0 0, .int .i64 0] := by rw [hW2]; exact (Row.new' 31 _ z1.symm)
  have HW0 := Lib.hid hW0
  have HW1 := Lib.hid hW1
  have HW2 := Lib.hid hW2
  have EG := Lib.hid eg
  have Z0 := Lib.hid z0
  have Z1 := Lib.hid z1
  have Z2 := Lib.hid z2
  have HN := Lib.hid hn
  have HRR1 := Lib.hid R1
  have HRR0 := Lib.hid R0
  have HRR2 := Lib.hid R2
  have HBW := Lib.hid hb2
  have HR0 := Lib.hid (fun X (h : Below W2.heap.size W2 X) => R0.below h R0.lt)
  have HR1 := Lib.hid (fun X (h : Below W2.heap.size W2 X) => R1.below h R1.lt)
  have HR2 := Lib.hid (fun X (h : Below W2.heap.size W2 X) => R2.below h R2.lt)
  have HSX := Lib.hid (fun X (h : Below W2.heap.size W2 X) => (HS.out.bel hb2).bel h)
  have HEND := Lib.hid (fun X cs (h : Below W2.heap.size W2 X) => below_putRow (bel_tr hb2 h) (show w.heap.size ≤ g + 1 + 1 by omega) cs)
  have HB := Lib.hid (Below.refl W2.heap.size W2)
  clear hW0 hW1 hW2 eg z0 z1 z2 hb2 R0 R1 R2 hn
  have q1 : W2.cell? ⟨g + 1, 1, none⟩ = some (.int .i64 ch.id) := (HR1.out _ HB.out).cell 1
  go_enter Try.func42, Try.ntmps42
  go_wp2_with (first | ((with_reducible show wpList _ _ _ (Oper.mk _ (Op.load _ _) _ _ _ _ :: _) _ _); (refine wpList_load_row rfl 31 (.tmp 2) rfl g rfl 31 #[.slice a n c, .int .i64 nx] (0, 0) _ (HR0.out _ HB.out) Try.underlying31 rfl Try.n31 ?_)) | ((with_reducible show wpList _ _ _ (Oper.mk _ (Op.box _ _) _ _ _ _ :: _) _ _); (first | (refine wpList_box_row rfl 31 (.tmp 0) rfl _ rfl g EG.out ?_; refine wpList_atE HW0.out ?_) | (refine wpList_box_row rfl 76 (.tmp 1) rfl _ rfl (g + 1) Z0.out.symm ?_; refine wpList_atE HW1.out ?_))) | ((with_reducible show wpList _ _ _ (Oper.mk _ (Op.alloc _) _ _ _ _ :: _) _ _); (refine wpList_alloc_row rfl 31 rfl #[.slice none 0 0, .int .i64 0] Try.z31 (g + 1 + 1) Z1.out.symm ?_; refine wpList_atE HW2.out ?_)))
  refine (field_any m _ ch.id _ (by omega) (HSX.out _ HB.out)).mono ?_
  rintro e w1 ⟨⟨f, b, rfl⟩, b1⟩
  have HB1 := Lib.hid (bel_tr HB.out b1)
  clear b1 q1
  obtain ⟨W3, hW3⟩ : ∃ W, W = w1.alloc (.cells (flc f).toArray 126) := ⟨_, rfl⟩
  obtain ⟨g3, hg3⟩ : ∃ x, x = w1.heap.size := ⟨_, rfl⟩
  have R3 : Row W3 g3 126 (flc f).toArray := by rw [hW3]; exact Row.new' 126 _ hg3
  have b3 : Below w1.heap.size w1 W3 := by rw [hW3]; exact (Below.refl _ _).alloc (Nat.le_refl _) _
  have HB3 := Lib.hid (bel_tr HB1.out b3)
  have HG3L := Lib.hid (show W2.heap.size ≤ g3 by rw [hg3]; exact HB1.out.size)
  have HR3 := Lib.hid (fun X (h : Below W3.heap.size W3 X) => R3.below h R3.lt)
  have HB33 := Lib.hid (Below.refl W3.heap.size W3)
  have HX3 := Lib.hid b3
  have HW3 := Lib.hid hW3
  have HG3 := Lib.hid hg3
  clear hW3 hg3 R3 b3
  cases b with
  | false =>
    go_wp2_with (first | ((with_reducible show wpList _ _ _ (Oper.mk _ (Op.alloc _) _ _ _ _ :: _) _ _); (refine wpList_new_row rfl rfl 126 6 (.tmp 15) rfl rfl rfl rfl g3 HG3.out (flc f).toArray rfl rfl _ Try.z126 Try.n126 rfl (one_fl _) ?_; refine wpList_atE HW3.out ?_)) | ((with_reducible show wpList _ _ _ (Oper.mk _ (Op.store _ _ _) _ _ _ _ :: _) _ _); refine wpList_put_arr rfl 31 (.tmp 4) (.tmp 19) rfl rfl (g + 1 + 1) 31 _ #[.slice none 0 0, .int .i64 0] rfl rfl (HR2.out _ HB3.out) Try.n31 rfl (one_sch _ _ _ _) ?_))
    try simp only [Exit.inBlock, Exit.then]
    refine bodyPost_ret (results_cell_slot (p := 4) (q := 5) (ty := 31) rfl _ _ (g + 1 + 1) 31 #[.slice none 0 0, .int .i64 0] (0, 0) _ rfl (Row.setRow (HR2.out _ HB3.out) _) Try.underlying31 rfl Try.n31) rfl ?_
    exact ⟨⟨_, _, rfl, sch_nil _ _⟩, HEND.out _ _ HB3.out⟩
  | true =>
    have v2 : W3.cell? ⟨g3, 2, none⟩ = some (.int .i64 f.ty) := (HR3.out _ HB33.out).cell 2
    by_cases t4 : f.ty = 4
    · have d4 : (f.ty != 4) = false := by simp [t4]
      clear t4
      have q7 : W3.cell? ⟨g + 1, 7, none⟩ = some (.string ch.sp) := (HR1.out _ HB3.out).cell 7
      go_wp2_with (first | ((with_reducible show wpList _ _ _ (Oper.mk _ (Op.alloc _) _ _ _ _ :: _) _ _); (refine wpList_new_row rfl rfl 126 6 (.tmp 15) rfl rfl rfl rfl g3 HG3.out (flc f).toArray rfl rfl _ Try.z126 Try.n126 rfl (one_fl _) ?_; refine wpList_atE HW3.out ?_)))
      refine (sep_any ch.sp _).mono ?_
      rintro e w4 ⟨⟨b, rfl⟩, hw⟩
      rw [hw]
      clear hw v2 q7
      cases b with
      | false =>
        go_wp2_with (first | ((with_reducible show wpList _ _ _ (Oper.mk _ (Op.store _ _ _) _ _ _ _ :: _) _ _); refine wpList_put_arr rfl 31 (.tmp 4) (.tmp 28) rfl rfl (g + 1 + 1) 31 _ #[.slice none 0 0, .int .i64 0] rfl rfl (HR2.out _ HB3.out) Try.n31 rfl (one_sch _ _ _ _) ?_))
        try simp only [Exit.inBlock, Exit.then]
        refine bodyPost_ret (results_cell_slot (p := 4) (q := 5) (ty := 31) rfl _ _ (g + 1 + 1) 31 #[.slice none 0 0, .int .i64 0] (0, 0) _ rfl (Row.setRow (HR2.out _ HB3.out) _) Try.underlying31 rfl Try.n31) rfl ?_
        exact ⟨⟨_, _, rfl, sch_nil _ _⟩, HEND.out _ _ HB3.out⟩
      | true =>
        have q3 : W3.cell? ⟨g + 1, 3, none⟩ = some (.string ch.nm) := (HR1.out _ HB3.out).cell 3
        have v3 : W3.cell? ⟨g3, 3, none⟩ = some (.int .i64 f.pa) := (HR3.out _ HB33.out).cell 3
        obtain ⟨fa, hfa⟩ : ∃ x, x = Fl.mk 0 ch.nm ch.hn 4 f.pa := ⟨_, rfl⟩
        obtain ⟨fb, hfb⟩ : ∃ x, x = Fl.mk 0 ch.ot ch.ho 4 f.pa := ⟨_, rfl⟩
        have fa0 : (.agg (flc fa).toArray : Value) = .agg #[.int .i64 0, .string ch.nm, .int .i64 4, .int .i64 f.pa] := by rw [hfa]; rfl
        have fb0 : (.agg (flc fb).toArray : Value) = .agg #[.int .i64 0, .string ch.ot, .int .i64 4, .int .i64 f.pa] := by rw [hfb]; rfl
        have HFA := Lib.hid fa0.symm
        have HFB := Lib.hid fb0.symm
        clear fa0 fb0 hfa hfb
        obtain ⟨W4, hW4⟩ : ∃ W, W = W3.alloc (.cells (flc fa).toArray 126) := ⟨_, rfl⟩
        obtain ⟨g4, hg4⟩ : ∃ x, x = W3.heap.size := ⟨_, rfl⟩
        have R4 : Row W4 g4 126 (flc fa).toArray := by rw [hW4]; exact Row.new' 126 _ hg4
        have b4 : Below W3.heap.size W3 W4 := by rw [hW4]; exact (Below.refl _ _).alloc (Nat.le_refl _) _
        have HB4 := Lib.hid (bel_tr HB3.out b4)
        have HG4L := Lib.hid (show W2.heap.size ≤ g4 by rw [hg4]; exact HB3.out.size)
        have HR4 := Lib.hid (fun X (h : Below W4.heap.size W4 X) => R4.below h R4.lt)
        have HB44 := Lib.hid (Below.refl W4.heap.size W4)
        have HX4 := Lib.hid b4
        have HW4 := Lib.hid hW4
        have HG4 := Lib.hid hg4
        clear hW4 hg4 R4 b4
        obtain ⟨W5, hW5⟩ : ∃ W, W = W4.alloc (.cells (flc fb).toArray 126) := ⟨_, rfl⟩
        obtain ⟨g5, hg5⟩ : ∃ x, x = W4.heap.size := ⟨_, rfl⟩
        have R5 : Row W5 g5 126 (flc fb).toArray := by rw [hW5]; exact Row.new' 126 _ hg5
        have b5 : Below W4.heap.size W4 W5 := by rw [hW5]; exact (Below.refl _ _).alloc (Nat.le_refl _) _
        have HB5 := Lib.hid (bel_tr HB4.out b5)
        have HG5L := Lib.hid (show W2.heap.size ≤ g5 by rw [hg5]; exact HB4.out.size)
        have HR5 := Lib.hid (fun X (h : Below W5.heap.size W5 X) => R5.below h R5.lt)
        have HB55 := Lib.hid (Below.refl W5.heap.size W5)
        have HX5 := Lib.hid b5
        have HW5 := Lib.hid hW5
        have HG5 := Lib.hid hg5
        clear hW5 hg5 R5 b5
        have v3' : W4.cell? ⟨g3, 3, none⟩ = some (.int .i64 f.pa) := (HR3.out _ HX4.out).cell 3
        have q4 : W4.cell? ⟨g + 1, 4, none⟩ = some (.string ch.ot) := (HR1.out _ HB4.out).cell 4
        have HX35 := Lib.hid (bel_tr HX4.out HX5.out)
        have v0 : W5.cell? ⟨g3, 0, none⟩ = some (.int .i64 f.id) := (HR3.out _ HX35.out).cell 0
        go_upto_region 10 with (first | ((with_reducible show wpList _ _ _ (Oper.mk _ (Op.alloc _) _ _ _ _ :: _) _ _); first | (refine wpList_new_row rfl rfl 126 8 (.tmp 33) rfl rfl rfl rfl g4 HG4.out (flc fa).toArray rfl HFA.out _ Try.z126 Try.n126 rfl (one_fl _) ?_; refine wpList_atE HW4.out ?_) | (refine wpList_new_row rfl rfl 126 9 (.tmp 38) rfl rfl rfl rfl g5 HG5.out (flc fb).toArray rfl HFB.out _ Try.z126 Try.n126 rfl (one_fl _) ?_; refine wpList_atE HW5.out ?_)))
        clear q3 v3 v3' q4
        go_wp2_with (first | ((with_reducible show wpList _ _ _ (Oper.mk _ (Op.load _ _) _ _ _ _ :: _) _ _); first | (refine wpList_load_row rfl 31 (.tmp 2) rfl g rfl 31 #[.slice a n c, .int .i64 nx] (0, 0) _ (HR0.out _ HB5.out) Try.underlying31 rfl Try.n31 ?_) | (refine wpList_load_row rfl 126 (.tmp 8) rfl g4 rfl 126 (flc fa).toArray (0, 0) _ (HR4.out _ HX5.out) Try.underlying126 rfl Try.n126 ?_)))
        refine (taken_any m _ fa f.id f.id _ (by omega) (HSX.out _ HB5.out)).mono ?_
        rintro e w6 ⟨⟨b, rfl⟩, b6⟩
        have HB6 := Lib.hid (bel_tr HB5.out b6)
        have HX6 := Lib.hid b6
        clear b6 v0
        cases b with
        | true =>
          go_wp2_with (first | ((with_reducible show wpList _ _ _ (Oper.mk _ (Op.store _ _ _) _ _ _ _ :: _) _ _); refine wpList_put_arr rfl 31 (.tmp 4) (.tmp 64) rfl rfl (g + 1 + 1) 31 _ #[.slice none 0 0, .int .i64 0] rfl rfl (HR2.out _ HB6.out) Try.n31 rfl (one_sch _ _ _ _) ?_))
          try simp only [Exit.inBlock, Exit.then]
          refine bodyPost_ret (results_cell_slot (p := 4) (q := 5) (ty := 31) rfl _ _ (g + 1 + 1) 31 #[.slice none 0 0, .int .i64 0] (0, 0) _ rfl (Row.setRow (HR2.out _ HB6.out) _) Try.underlying31 rfl Try.n31) rfl ?_
          exact ⟨⟨_, _, rfl, sch_nil _ _⟩, HEND.out _ _ HB6.out⟩
        | false =>
          have v0 : w6.cell? ⟨g3, 0, none⟩ = some (.int .i64 f.id) := (HR3.out _ (bel_tr HX35.out HX6.out)).cell 0
          have r0 : w6.cell? ⟨g, 0, none⟩ = some (.slice a n c) := (HR0.out _ HB6.out).cell 0
          have r1 : w6.cell? ⟨g, 1, none⟩ = some (.int .i64 nx) := (HR0.out _ HB6.out).cell 1
          have y0 : w6.cell? ⟨g5, 0, none⟩ = some (.int .i64 fb.id) := (HR5.out _ HX6.out).cell 0
          have y1 : w6.cell? ⟨g5, 1, none⟩ = some (.string fb.nm) := (HR5.out _ HX6.out).cell 1
          have y2 : w6.cell? ⟨g5, 2, none⟩ = some (.int .i64 fb.ty) := (HR5.out _ HX6.out).cell 2
          have y3 : w6.cell? ⟨g5, 3, none⟩ = some (.int .i64 fb.pa) := (HR5.out _ HX6.out).cell 3
          go_wp2_with fail
          refine (taken_any m _ fb f.id f.id _ (by omega) (HSX.out _ HB6.out)).mono ?_
          rintro e w7 ⟨⟨b, rfl⟩, b7⟩
          have HB7 := Lib.hid (bel_tr HB6.out b7)
          have HX7 := Lib.hid (bel_tr HX6.out b7)
          clear b7 v0 r0 r1 y0 y1 y2 y3
          cases b with
          | true =>
            go_wp2_with (first | ((with_reducible show wpList _ _ _ (Oper.mk _ (Op.store _ _ _) _ _ _ _ :: _) _ _); refine wpList_put_arr rfl 31 (.tmp 4) (.tmp 64) rfl rfl (g + 1 + 1) 31 _ #[.slice none 0 0, .int .i64 0] rfl rfl (HR2.out _ HB7.out) Try.n31 rfl (one_sch _ _ _ _) ?_))
            try simp only [Exit.inBlock, Exit.then]
            refine bodyPost_ret (results_cell_slot (p := 4) (q := 5) (ty := 31) rfl _ _ (g + 1 + 1) 31 #[.slice none 0 0, .int .i64 0] (0, 0) _ rfl (Row.setRow (HR2.out _ HB7.out) _) Try.underlying31 rfl Try.n31) rfl ?_
            exact ⟨⟨_, _, rfl, sch_nil _ _⟩, HEND.out _ _ HB7.out⟩
          | false =>
            have q3 : w7.cell? ⟨g + 1, 3, none⟩ = some (.string ch.nm) := (HR1.out _ HB7.out).cell 3
            have q4 : w7.cell? ⟨g + 1, 4, none⟩ = some (.string ch.ot) := (HR1.out _ HB7.out).cell 4
            cases hq : (ch.nm.toList == ch.ot.toList) with
            | true =>
              go_wp2_with (first | ((with_reducible show wpList _ _ _ (Oper.mk _ (Op.store _ _ _) _ _ _ _ :: _) _ _); refine wpList_put_arr rfl 31 (.tmp 4) (.tmp 64) rfl rfl (g + 1 + 1) 31 _ #[.slice none 0 0, .int .i64 0] rfl rfl (HR2.out _ HB7.out) Try.n31 rfl (one_sch _ _ _ _) ?_))
              try simp only [Exit.inBlock, Exit.then]
              refine bodyPost_ret (results_cell_slot (p := 4) (q := 5) (ty := 31) rfl _ _ (g + 1 + 1) 31 #[.slice none 0 0, .int .i64 0] (0, 0) _ rfl (Row.setRow (HR2.out _ HB7.out) _) Try.underlying31 rfl Try.n31) rfl ?_
              exact ⟨⟨_, _, rfl, sch_nil _ _⟩, HEND.out _ _ HB7.out⟩
            | false =>
              have r0 : w7.cell? ⟨g, 0, none⟩ = some (.slice a n c) := (HR0.out _ HB7.out).cell 0
              have r1 : w7.cell? ⟨g, 1, none⟩ = some (.int .i64 nx) := (HR0.out _ HB7.out).cell 1
              go_upto_region 12 with fail
              go_cut [73] from 65 to 73 (fun s wx => ∃ b : Bool, s = .bool b ∧ w7 = wx)
              case first =>
                go_wp2_with fail
                all_goals first | exact (undef_no (by assumption)).elim | (go_meet; exact ⟨_, rfl, rfl⟩)
              case rest =>
                obtain ⟨b, rfl, rfl⟩ := hcut
                cases b with
                | true =>
                  go_wp2_with (first | ((with_reducible show wpList _ _ _ (Oper.mk _ (Op.store _ _ _) _ _ _ _ :: _) _ _); refine wpList_put_arr rfl 31 (.tmp 4) (.tmp 74) rfl rfl (g + 1 + 1) 31 _ #[.slice none 0 0, .int .i64 0] rfl rfl (HR2.out _ HB7.out) Try.n31 rfl (one_sch _ _ _ _) ?_))
                  try simp only [Exit.inBlock, Exit.then]
                  refine bodyPost_ret (results_cell_slot (p := 4) (q := 5) (ty := 31) rfl _ _ (g + 1 + 1) 31 #[.slice none 0 0, .int .i64 0] (0, 0) _ rfl (Row.setRow (HR2.out _ HB7.out) _) Try.underlying31 rfl Try.n31) rfl ?_
                  exact ⟨⟨_, _, rfl, sch_nil _ _⟩, HEND.out _ _ HB7.out⟩
                | false =>
                  clear q3 q4 hq
                  have v0 : w7.cell? ⟨g3, 0, none⟩ = some (.int .i64 f.id) := (HR3.out _ (bel_tr HX35.out HX7.out)).cell 0
                  have HKEEP := Lib.hid (fun X (h : Below w7.heap.size w7 X) => (⟨(HR0.out _ (bel_tr HB7.out h)).cell 0, (HR0.out _ (bel_tr HB7.out h)).cell 1, (HR3.out _ (bel_tr (bel_tr HX35.out HX7.out) h)).cell 0, (HR4.out _ (bel_tr HX5.out (bel_tr HX7.out h))).cell 0, (HR4.out _ (bel_tr HX5.out (bel_tr HX7.out h))).cell 1, (HR4.out _ (bel_tr HX5.out (bel_tr HX7.out h))).cell 2, (HR4.out _ (bel_tr HX5.out (bel_tr HX7.out h))).cell 3, (HR5.out _ (bel_tr HX7.out h)).cell 0, (HR5.out _ (bel_tr HX7.out h)).cell 1, (HR5.out _ (bel_tr HX7.out h)).cell 2, (HR5.out _ (bel_tr HX7.out h)).cell 3⟩ :
                    X.cell? ⟨g, 0, none⟩ = some (.slice a n c) ∧ X.cell? ⟨g, 1, none⟩ = some (.int .i64 nx) ∧ X.cell? ⟨g3, 0, none⟩ = some (.int .i64 f.id) ∧ X.cell? ⟨g4, 0, none⟩ = some (.int .i64 fa.id) ∧ X.cell? ⟨g4, 1, none⟩ = some (.string fa.nm) ∧ X.cell? ⟨g4, 2, none⟩ = some (.int .i64 fa.ty) ∧ X.cell? ⟨g4, 3, none⟩ = some (.int .i64 fa.pa) ∧ X.cell? ⟨g5, 0, none⟩ = some (.int .i64 fb.id) ∧ X.cell? ⟨g5, 1, none⟩ = some (.string fb.nm) ∧ X.cell? ⟨g5, 2, none⟩ = some (.int .i64 fb.ty) ∧ X.cell? ⟨g5, 3, none⟩ = some (.int .i64 fb.pa)))
                  obtain ⟨x0, x1, x2, x3, x4, x5, x6, x7, x8, x9, x10⟩ := HKEEP.out w7 (Below.refl _ _)
                  go_wp2_with fail
                  have nn0 : ¬ g = g + 1 + 1 := by omega
                  have nn3 : ¬ g3 = g + 1 + 1 := by have := HG3L.out; have := Z2.out; omega
                  have nn4 : ¬ g4 = g + 1 + 1 := by have := HG4L.out; have := Z2.out; omega
                  have nn5 : ¬ g5 = g + 1 + 1 := by have := HG5L.out; have := Z2.out; omega
                  have mm3 : ¬ g + 1 + 1 = g3 := by omega
                  have mm4 : ¬ g + 1 + 1 = g4 := by omega
                  have mm5 : ¬ g + 1 + 1 = g5 := by omega
                  go_region_held3 (fun X => X.cell? ⟨g, 0, none⟩ = some (.slice a n c) ∧ X.cell? ⟨g, 1, none⟩ = some (.int .i64 nx) ∧ X.cell? ⟨g3, 0, none⟩ = some (.int .i64 f.id) ∧ X.cell? ⟨g4, 0, none⟩ = some (.int .i64 fa.id) ∧ X.cell? ⟨g4, 1, none⟩ = some (.string fa.nm) ∧ X.cell? ⟨g4, 2, none⟩ = some (.int .i64 fa.ty) ∧ X.cell? ⟨g4, 3, none⟩ = some (.int .i64 fa.pa) ∧ X.cell? ⟨g5, 0, none⟩ = some (.int .i64 fb.id) ∧ X.cell? ⟨g5, 1, none⟩ = some (.string fb.nm) ∧ X.cell? ⟨g5, 2, none⟩ = some (.int .i64 fb.ty) ∧ X.cell? ⟨g5, 3, none⟩ = some (.int .i64 fb.pa)) (go_keep) (first | (go_simp; go_at_call 63; refine (without_any m _ f.id f.id _ (by omega) (HSX.out _ (below_drewN HB7.out 1))).mono ?_; rintro e w8 ⟨⟨v8, rfl, s8⟩, b8⟩; have HX8 := Lib.hid ((below_drewN (Below.refl w7.heap.size w7) 1).trans b8); have kk := HKEEP.out w8 HX8.out; have HS8 := Lib.hid s8; clear s8 b8) | (go_simp; go_at_call 61; refine (plus_any (m + 1) _ fb _ (by omega) HS9.out).mono ?_; rintro e w10 ⟨⟨v10, rfl, s10⟩, b10⟩; have HX10 := Lib.hid (bel_tr HX9.out b10); have HB10 := Lib.hid (bel_tr HB7.out HX10.out); have kk := HKEEP.out w10 HX10.out; have HS5 := Lib.hid s10; obtain ⟨a5, F5, c5, nx5, rfl, _⟩ := s10; clear b10; have p0 : w10.cell? ⟨g + 1 + 1, 0, none⟩ = some (.slice none 0 0) := (HR2.out _ HB10.out).cell 0; have p1 : w10.cell? ⟨g + 1 + 1, 1, none⟩ = some (.int .i64 0) := (HR2.out _ HB10.out).cell 1; have p2 := (HR2.out _ HB10.out).frozen 0; have p3 := (HR2.out _ HB10.out).frozen 1; have kz0 := (cell_set2 (w := w10) (g := g + 1 + 1) (h := g) (i := 0) (u := .slice a5 F5.length c5) (v := .int .i64 nx5) (by omega)).trans kk.1; have kz1 := (cell_set2 (w := w10) (g := g + 1 + 1) (h := g) (i := 1) (u := .slice a5 F5.length c5) (v := .int .i64 nx5) (by omega)).trans kk.2.1) | (go_simp; go_at_call 61; refine (plus_any m _ fa _ (by omega) HS8.out).mono ?_; rintro e w9 ⟨⟨v9, rfl, s9⟩, b9⟩; have HX9 := Lib.hid (bel_tr HX8.out b9); have kk := HKEEP.out w9 HX9.out; have HS9 := Lib.hid s9; clear s9 b9))
                  go_wp2_with fail
                  try simp only [Exit.inBlock, Exit.then]
                  refine bodyPost_ret (results_cell_slot (p := 4) (q := 5) (ty := 31) rfl _ _ (g + 1 + 1) 31 #[.slice a5 F5.length c5, .int .i64 nx5] (0, 0) _ rfl (((HR2.out _ HB10.out).set 0 _).set 1 _) Try.underlying31 rfl Try.n31) rfl ?_
                  exact ⟨⟨_, _, rfl, HS5.out.set2 (HR2.out _ HB10.out) _ _⟩, ((bel_tr HBW.out HB10.out).setCell (p := ⟨g + 1 + 1, 0, none⟩) (by have := EG.out; show w.heap.size ≤ g + 1 + 1; omega) _).setCell (p := ⟨g + 1 + 1, 1, none⟩) (by have := EG.out; show w.heap.size ≤ g + 1 + 1; omega) _⟩
    · have d4 : (f.ty != 4) = true := by simp [t4]
      clear t4
      go_wp2_with (first | ((with_reducible show wpList _ _ _ (Oper.mk _ (Op.alloc _) _ _ _ _ :: _) _ _); (refine wpList_new_row rfl rfl 126 6 (.tmp 15) rfl rfl rfl rfl g3 HG3.out (flc f).toArray rfl rfl _ Try.z126 Try.n126 rfl (one_fl _) ?_; refine wpList_atE HW3.out ?_)) | ((with_reducible show wpList _ _ _ (Oper.mk _ (Op.store _ _ _) _ _ _ _ :: _) _ _); refine wpList_put_arr rfl 31 (.tmp 4) (.tmp 23) rfl rfl (g + 1 + 1) 31 _ #[.slice none 0 0, .int .i64 0] rfl rfl (HR2.out _ HB3.out) Try.n31 rfl (one_sch _ _ _ _) ?_))
      try simp only [Exit.inBlock, Exit.then]
      refine bodyPost_ret (results_cell_slot (p := 4) (q := 5) (ty := 31) rfl _ _ (g + 1 + 1) 31 #[.slice none 0 0, .int .i64 0] (0, 0) _ rfl (Row.setRow (HR2.out _ HB3.out) _) Try.underlying31 rfl Try.n31) rfl ?_
      exact ⟨⟨_, _, rfl, sch_nil _ _⟩, HEND.out _ _ HB3.out⟩
end Go.Proofs.Ytkonoojmhjinpaa
