/- Contracts: move. -/
import Derived.Test.YtkonoojmhjinpaaG
set_option linter.all false
namespace Go.Proofs.Ytkonoojmhjinpaa
open Go.RowKit Go.Fen
set_option linter.unusedVariables false
set_option maxHeartbeats 4000000

set_option maxRecDepth 20000 in
theorem move_any (m : Nat) (v : Value) (f : Fl) (pp : Int) (w : World) (hm : m ≤ 999) (hS : Sch m w v) : Calls Try.prog 65 #[v, .agg (flc f).toArray, .int .i64 pp] w fun e w' => RetSE m e w' ∧ Below w.heap.size w w' := by
  have HS := Lib.hid hS
  obtain ⟨a, F, c, nx, rfl, _⟩ := hS
  obtain ⟨n, hn⟩ : ∃ n, n = F.length := ⟨_, rfl⟩
  rw [← hn] at HS ⊢
  obtain ⟨g, eg⟩ : ∃ g, g = w.heap.size := ⟨_, rfl⟩
  obtain ⟨W0, hW0⟩ : ∃ W, W = w.alloc (.cells #[.slice a n c, .int .i64 nx] 31) := ⟨_, rfl⟩
  obtain ⟨W1, hW1⟩ : ∃ W, W = W0.alloc (.cells (flc f).toArray 126) := ⟨_, rfl⟩
  obtain ⟨W2, hW2⟩ : ∃ W, W = W1.alloc (.cells #[.slice none 0 0, .int .i64 0] 31) := ⟨_, rfl⟩
  have z0 : W0.heap.size = g + 1 := by rw [hW0, eg]; simp
  have z1 : W1.heap.size = g + 1 + 1 := by rw [hW1, World.size_alloc, z0]
  have z2 : W2.heap.size = g + 1 + 1 + 1 := by rw [hW2, World.size_alloc, z1]
  have hb2 : Below w.heap.size w W2 := by rw [hW2, hW1, hW0]; exact (((Below.refl _ _).alloc (Nat.le_refl _) _).alloc (by simp) _).alloc (by simp <;> omega) _
  have R0 : Row W2 g 31 #[.slice a n c, .int .i64 nx] := by rw [hW2, hW1, hW0, eg]; exact ((Row.new w 31 _).alloc _).alloc _
  have R1 : Row W2 (g + 1) 126 (flc f).toArray := by rw [hW2, hW1]; exact ((Row.new' 126 _ z0.symm).alloc _)
  have R2 : Row W2 (g + 1 + 1) 31 #[.slice none 0 0, .int .i64 0] := by rw [hW2]; exact (Row.new' 31 _ z1.symm)
  have HW0 := Lib.hid hW0
  have HW1 := Lib.hid hW1
  have HW2 := Lib.hid hW2
  have EG := Lib.hid eg
  have Z0 := Lib.hid z0
  have Z1 := Lib.hid z1
  have Z2 := Lib.hid z2
  have HN := Lib.hid hn
  have HRR1 := Lib.hid R1
  have HRR0 := Lib.hid R0
  have HRR2 := Lib.hid R2
  have HBW := Lib.hid hb2
  have HR0 := Lib.hid (fun X (h : Below W2.heap.size W2 X) => R0.below h R0.lt)
  have HR1 := Lib.hid (fun X (h : Below W2.heap.size W2 X) => R1.below h R1.lt)
  have HR2 := Lib.hid (fun X (h : Below W2.heap.size W2 X) => R2.below h R2.lt)
  have HSX := Lib.hid (fun X (h : Below W2.heap.size W2 X) => (HS.out.bel hb2).bel h)
  have HEND := Lib.hid (fun X cs (h : Below W2.heap.size W2 X) => below_putRow (bel_tr hb2 h) (show w.heap.size ≤ g + 1 + 1 by omega) cs)
  have HB := Lib.hid (Below.refl W2.heap.size W2)
  clear hW0 hW1 hW2 eg z0 z1 z2 hb2 R0 R1 R2 hn
  go_enter Try.func65, Try.ntmps65
  go_wp2_with (first | ((with_reducible show wpList _ _ _ (Oper.mk _ (Op.load _ _) _ _ _ _ :: _) _ _); (refine wpList_load_row rfl 31 (.tmp 3) rfl g rfl 31 #[.slice a n c, .int .i64 nx] (0, 0) _ (HR0.out _ HB.out) Try.underlying31 rfl Try.n31 ?_)) | ((with_reducible show wpList _ _ _ (Oper.mk _ (Op.box _ _) _ _ _ _ :: _) _ _); (first | (refine wpList_box_row rfl 31 (.tmp 0) rfl _ rfl g EG.out ?_; refine wpList_atE HW0.out ?_) | (refine wpList_box_row rfl 126 (.tmp 1) rfl _ rfl (g + 1) Z0.out.symm ?_; refine wpList_atE HW1.out ?_))) | ((with_reducible show wpList _ _ _ (Oper.mk _ (Op.alloc _) _ _ _ _ :: _) _ _); (refine wpList_alloc_row rfl 31 rfl #[.slice none 0 0, .int .i64 0] Try.z31 (g + 1 + 1) Z1.out.symm ?_; refine wpList_atE HW2.out ?_)))
  refine (group_any m _ pp _ (by omega) (HSX.out _ HB.out)).mono ?_
  rintro e w1 ⟨⟨b, rfl⟩, b1⟩
  have HB1 := Lib.hid (bel_tr HB.out b1)
  clear b1
  cases b with
  | false =>
    go_wp2_with (first | ((with_reducible show wpList _ _ _ (Oper.mk _ (Op.store _ _ _) _ _ _ _ :: _) _ _); refine wpList_put_arr rfl 31 (.tmp 6) (.tmp 21) rfl rfl (g + 1 + 1) 31 _ #[.slice none 0 0, .int .i64 0] rfl rfl (HR2.out _ HB1.out) Try.n31 rfl (one_sch _ _ _ _) ?_))
    try simp only [Exit.inBlock, Exit.then]
    refine bodyPost_ret (results_cell_slot (p := 6) (q := 7) (ty := 31) rfl _ _ (g + 1 + 1) 31 #[.slice none 0 0, .int .i64 0] (0, 0) _ rfl (Row.setRow (HR2.out _ HB1.out) _) Try.underlying31 rfl Try.n31) rfl ?_
    exact ⟨⟨_, _, rfl, sch_nil _ _⟩, HEND.out _ _ HB1.out⟩
  | true =>
    have q0 : w1.cell? ⟨g + 1, 0, none⟩ = some (.int .i64 f.id) := (HR1.out _ HB1.out).cell 0
    have r0 : w1.cell? ⟨g, 0, none⟩ = some (.slice a n c) := (HR0.out _ HB1.out).cell 0
    have r1 : w1.cell? ⟨g, 1, none⟩ = some (.int .i64 nx) := (HR0.out _ HB1.out).cell 1
    go_wp2_with (first | ((with_reducible show wpList _ _ _ (Oper.mk _ (Op.load _ _) _ _ _ _ :: _) _ _); (refine wpList_load_row rfl 31 (.tmp 3) rfl g rfl 31 #[.slice a n c, .int .i64 nx] (0, 0) _ (HR0.out _ HB1.out) Try.underlying31 rfl Try.n31 ?_)))
    refine (inside_any m _ pp f.id _ (by omega) (HSX.out _ HB1.out)).mono ?_
    rintro e w2 ⟨⟨b, rfl⟩, b2⟩
    have HB2 := Lib.hid (bel_tr HB1.out b2)
    clear b2 q0 r0 r1
    cases b with
    | true =>
      go_wp2_with (first | ((with_reducible show wpList _ _ _ (Oper.mk _ (Op.store _ _ _) _ _ _ _ :: _) _ _); refine wpList_put_arr rfl 31 (.tmp 6) (.tmp 21) rfl rfl (g + 1 + 1) 31 _ #[.slice none 0 0, .int .i64 0] rfl rfl (HR2.out _ HB2.out) Try.n31 rfl (one_sch _ _ _ _) ?_))
      try simp only [Exit.inBlock, Exit.then]
      refine bodyPost_ret (results_cell_slot (p := 6) (q := 7) (ty := 31) rfl _ _ (g + 1 + 1) 31 #[.slice none 0 0, .int .i64 0] (0, 0) _ rfl (Row.setRow (HR2.out _ HB2.out) _) Try.underlying31 rfl Try.n31) rfl ?_
      exact ⟨⟨_, _, rfl, sch_nil _ _⟩, HEND.out _ _ HB2.out⟩
    | false =>
      obtain ⟨f2, hf2⟩ : ∃ f2, f2 = Fl.mk f.id f.nm f.sz f.ty pp := ⟨_, rfl⟩
      obtain ⟨W3, hW3⟩ : ∃ W, W = w2.setCell ⟨g + 1, 3, none⟩ (.int .i64 pp) := ⟨_, rfl⟩
      have S0 : Row W3 g 31 #[.slice a n c, .int .i64 nx] := by rw [hW3]; exact (HR0.out _ HB2.out).setOther (by show g ≠ g + 1; omega) _
      have S1 : Row W3 (g + 1) 126 (flc f2).toArray := by rw [hW3, hf2]; exact (HR1.out _ HB2.out).set 3 _
      have S2 : Row W3 (g + 1 + 1) 31 #[.slice none 0 0, .int .i64 0] := by rw [hW3]; exact (HR2.out _ HB2.out).setOther (by show g + 1 + 1 ≠ g + 1; omega) _
      have bw3 : Below w.heap.size w W3 := by rw [hW3]; exact (bel_tr HBW.out HB2.out).setCell (p := ⟨g + 1, 3, none⟩) (by have := EG.out; show w.heap.size ≤ g + 1; omega) _
      have k3 : w2.cell? ⟨g + 1, 3, none⟩ = some (.int .i64 f.pa) := (HR1.out _ HB2.out).cell 3
      have k4 := (HR1.out _ HB2.out).frozen 3
      have HW3 := Lib.hid hW3.symm
      have HT0 := Lib.hid (fun X (h : Below W3.heap.size W3 X) => S0.below h S0.lt)
      have HT1 := Lib.hid (fun X (h : Below W3.heap.size W3 X) => S1.below h S1.lt)
      have HT2 := Lib.hid (fun X (h : Below W3.heap.size W3 X) => S2.below h S2.lt)
      have HTX := Lib.hid (fun X (h : Below W3.heap.size W3 X) => (HS.out.bel bw3).bel h)
      have HEND3 := Lib.hid (fun X cs (h : Below W3.heap.size W3 X) => below_putRow (bel_tr bw3 h) (show w.heap.size ≤ g + 1 + 1 by have := EG.out; omega) cs)
      have HC := Lib.hid (Below.refl W3.heap.size W3)
      clear S0 S1 S2 bw3 hW3 hf2
      go_upto_region 4 with (first | (fail))
      rw [HW3.out]
      go_wp2_with (first | ((with_reducible show wpList _ _ _ (Oper.mk _ (Op.load _ _) _ _ _ _ :: _) _ _); first | (refine wpList_load_row rfl 31 (.tmp 3) rfl g rfl 31 #[.slice a n c, .int .i64 nx] (0, 0) _ (HT0.out _ HC.out) Try.underlying31 rfl Try.n31 ?_) | (refine wpList_load_row rfl 126 (.tmp 4) rfl (g + 1) rfl 126 (flc f2).toArray (0, 0) _ (HT1.out _ HC.out) Try.underlying126 rfl Try.n126 ?_)))
      refine (with_any m _ f2 _ (by omega) (HTX.out _ HC.out)).mono ?_
      rintro e w5 ⟨⟨v5, rfl, s5⟩, b5⟩
      have HC5 := Lib.hid (bel_tr HC.out b5)
      have HS5 := Lib.hid s5
      obtain ⟨a5, F5, c5, nx5, rfl, h5, l5⟩ := s5
      obtain ⟨n5, hn5⟩ : ∃ n, n = F5.length := ⟨_, rfl⟩
      rw [← hn5] at HS5 ⊢
      obtain ⟨g6, hg6⟩ : ∃ x, x = w5.heap.size := ⟨_, rfl⟩
      obtain ⟨W6, hW6⟩ : ∃ W, W = w5.alloc (.cells #[.slice a5 n5 c5, .int .i64 nx5] 31) := ⟨_, rfl⟩
      have b6 : Below w5.heap.size w5 W6 := by rw [hW6]; exact (Below.refl _ _).alloc (Nat.le_refl _) _
      have R6 : Row W6 g6 31 #[.slice a5 n5 c5, .int .i64 nx5] := by rw [hW6]; exact Row.new' 31 _ hg6
      have HC6 := Lib.hid (bel_tr HC5.out b6)
      have HR6 := Lib.hid (fun X (h : Below W6.heap.size W6 X) => R6.below h R6.lt)
      have HS6 := Lib.hid (fun X (h : Below W6.heap.size W6 X) => (HS5.out.bel b6).bel h)
      have HL6 := Lib.hid (fun X (h : Below W6.heap.size W6 X) => (l5.bel b6).bel h)
      have HW6 := Lib.hid hW6
      have HG6 := Lib.hid hg6
      have HN5 := Lib.hid hn5
      have n65 : n5 ≤ 1000 := by omega
      clear hW6 hg6 hn5 b6 R6 l5 h5 b5
      go_wp2_with (first | ((with_reducible show wpList _ _ _ (Oper.mk _ (Op.alloc _) _ _ _ _ :: _) _ _); (refine wpList_new_row rfl rfl 31 8 (.tmp 26) rfl rfl rfl rfl g6 HG6.out #[.slice a5 n5 c5, .int .i64 nx5] rfl rfl _ Try.z31 Try.n31 rfl (one_sch _ _ _ _) ?_; refine wpList_atE HW6.out ?_)))
      go_loopw [9] (fun iv wr => ∃ k : Nat, k ≤ n5 ∧ iv = .int .i64 k ∧ Below W6.heap.size W6 wr) (fun iv _ => n5 - (intOf iv).toNat)
      case atStart => exact ⟨0, by omega, rfl, Below.refl _ _⟩
      case round =>
        obtain ⟨k, hk, rfl, hb⟩ := hrel
        have HBr := Lib.hid hb
        have HCr := Lib.hid (bel_tr HC6.out hb)
        have j0 : wr.cell? ⟨g6, 0, none⟩ = some (.slice a5 n5 c5) := (HR6.out _ hb).cell 0
        have j1 : wr.cell? ⟨g6, 1, none⟩ = some (.int .i64 nx5) := (HR6.out _ hb).cell 1
        clear hb
        by_cases hkn : k < n5
        · have ki : (k : Int) < (n5 : Int) := by omega
          obtain ⟨gf, of, rfl, _, hc⟩ := (HL6.out _ HBr.out).some (by rw [← HN5.out]; omega)
          obtain ⟨e, he⟩ : ∃ f, F5[k]? = some f := ⟨_, List.getElem?_eq_getElem (by rw [← HN5.out]; exact hkn)⟩
          have c0 : wr.cell? ⟨gf, of + k * 4, none⟩ = some (.int .i64 e.id) := by have := hc k e he 0 _ rfl; rw [Nat.add_zero] at this; exact this
          have HKN := Lib.hid hkn
          have HD := Lib.hid (fun X (h : Below wr.heap.size wr X) => depth_any m _ e.id X (by omega) (HS6.out _ (bel_tr HBr.out h)))
          clear hc he hkn hk
          go_wp2_with fail
          go_region_law (go_simp; go_at_call 59; refine (HD.out _ (below_drewN (Below.refl _ _) 1)).mono ?_; rintro e w7 ⟨⟨x, rfl⟩, b7⟩)
          all_goals
            have b7' : Below wr.heap.size wr w7 := (below_drewN (Below.refl wr.heap.size wr) 1).trans b7
            have HCw := Lib.hid (bel_tr HCr.out b7')
            have HBw := Lib.hid (bel_tr HBr.out b7')
            clear b7 b7'
            by_cases hx : 8 < x
            · have d : decide (8 < x) = true := decide_eq_true hx
              go_wp2_with (first | ((with_reducible show wpList _ _ _ (Oper.mk _ (Op.store _ _ _) _ _ _ _ :: _) _ _); refine wpList_put_arr rfl 31 (.tmp 6) (.tmp 43) rfl rfl (g + 1 + 1) 31 _ #[.slice none 0 0, .int .i64 0] rfl rfl (HT2.out _ HCw.out) Try.n31 rfl (one_sch _ _ _ _) ?_))
              try simp only [Exit.inBlock, Exit.then]
              refine bodyPost_ret (results_cell_slot (p := 6) (q := 7) (ty := 31) rfl _ _ (g + 1 + 1) 31 #[.slice none 0 0, .int .i64 0] (0, 0) _ rfl (Row.setRow (HT2.out _ HCw.out) _) Try.underlying31 rfl Try.n31) rfl ?_
              exact ⟨⟨_, _, rfl, sch_nil _ _⟩, HEND3.out _ _ HCw.out⟩
            · have d : decide (8 < x) = false := decide_eq_false hx
              go_wp2_with fail
              go_roundw
              case rel => exact ⟨k + 1, HKN.out, by go_num, HBw.out⟩
              case measure => have := HKN.out; simp [intOf] <;> omega
        · have ki : ¬ (k : Int) < (n5 : Int) := by omega
          have t0 : wr.cell? ⟨g + 1, 0, none⟩ = some (.int .i64 f2.id) := (HT1.out _ HCr.out).cell 0
          clear hkn hk
          go_wp2_with (first | ((with_reducible show wpList _ _ _ (Oper.mk _ (Op.load _ _) _ _ _ _ :: _) _ _); first | (refine wpList_load_row rfl 31 (.tmp 3) rfl g rfl 31 #[.slice a n c, .int .i64 nx] (0, 0) _ (HT0.out _ HCr.out) Try.underlying31 rfl Try.n31 ?_) | (refine wpList_load_row rfl 126 (.tmp 4) rfl (g + 1) rfl 126 (flc f2).toArray (0, 0) _ (HT1.out _ HCr.out) Try.underlying126 rfl Try.n126 ?_)))
          refine (taken_any m _ f2 f2.id f2.id _ (by omega) (HTX.out _ HCr.out)).mono ?_
          rintro e w8 ⟨⟨b, rfl⟩, b8⟩
          have HC8 := Lib.hid (bel_tr HCr.out b8)
          have HB8 := Lib.hid (bel_tr HBr.out b8)
          clear b8
          cases b with
          | true =>
            go_wp2_with (first | ((with_reducible show wpList _ _ _ (Oper.mk _ (Op.store _ _ _) _ _ _ _ :: _) _ _); refine wpList_put_arr rfl 31 (.tmp 6) (.tmp 52) rfl rfl (g + 1 + 1) 31 _ #[.slice none 0 0, .int .i64 0] rfl rfl (HT2.out _ HC8.out) Try.n31 rfl (one_sch _ _ _ _) ?_))
            try simp only [Exit.inBlock, Exit.then]
            refine bodyPost_ret (results_cell_slot (p := 6) (q := 7) (ty := 31) rfl _ _ (g + 1 + 1) 31 #[.slice none 0 0, .int .i64 0] (0, 0) _ rfl (Row.setRow (HT2.out _ HC8.out) _) Try.underlying31 rfl Try.n31) rfl ?_
            exact ⟨⟨_, _, rfl, sch_nil _ _⟩, HEND3.out _ _ HC8.out⟩
          | false =>
            have HS5 := Lib.hid (HS6.out _ HB8.out)
            have HN5' := HN5.out
            subst HN5'
            go_wp2_with (first | ((with_reducible show wpList _ _ _ (Oper.mk _ (Op.load _ _) _ _ _ _ :: _) _ _); (refine wpList_load_row rfl 31 (.tmp 8) rfl g6 rfl 31 #[.slice a5 F5.length c5, .int .i64 nx5] (0, 0) _ (HR6.out _ HB8.out) Try.underlying31 rfl Try.n31 ?_)) | ((with_reducible show wpList _ _ _ (Oper.mk _ (Op.store _ _ _) _ _ _ _ :: _) _ _); refine wpList_put_arr rfl 31 (.tmp 6) (.tmp 53) rfl rfl (g + 1 + 1) 31 _ #[.slice a5 F5.length c5, .int .i64 nx5] rfl rfl (HT2.out _ HC8.out) Try.n31 rfl (one_sch _ _ _ _) ?_))
            try simp only [Exit.inBlock, Exit.then]
            refine bodyPost_ret (results_cell_slot (p := 6) (q := 7) (ty := 31) rfl _ _ (g + 1 + 1) 31 #[.slice a5 F5.length c5, .int .i64 nx5] (0, 0) _ rfl (Row.setRow (HT2.out _ HC8.out) _) Try.underlying31 rfl Try.n31) rfl ?_
            exact ⟨⟨_, _, rfl, (HS5.out.put (HT2.out _ HC8.out) _).le (by omega)⟩, HEND3.out _ _ HC8.out⟩
end Go.Proofs.Ytkonoojmhjinpaa
