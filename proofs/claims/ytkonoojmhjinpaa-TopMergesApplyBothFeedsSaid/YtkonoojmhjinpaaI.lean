/- Contracts: one. -/
import Derived.Test.YtkonoojmhjinpaaH
set_option linter.all false
namespace Go.Proofs.Ytkonoojmhjinpaa
open Go.RowKit Go.Fen
set_option linter.unusedVariables false
set_option maxHeartbeats 4000000

set_option maxRecDepth 20000 in
theorem one_any (m : Nat) (v : Value) (ch : Ch) (w : World) (hm : m ≤ 999) (hS : Sch m w v) : Calls Try.prog 41 #[v, .agg (chc ch).toArray] w fun e w' => RetSE (m + 2) e w' ∧ Below w.heap.size w w' := by
  have HS := Lib.hid hS
  obtain ⟨a, F, c, nx, rfl, _⟩ := hS
  obtain ⟨n, hn⟩ : ∃ n, n = F.length := ⟨_, rfl⟩
  rw [← hn] at HS ⊢
  obtain ⟨g, eg⟩ : ∃ g, g = w.heap.size := ⟨_, rfl⟩
  obtain ⟨W0, hW0⟩ : ∃ W, W = w.alloc (.cells #[.slice a n c, .int .i64 nx] 31) := ⟨_, rfl⟩
  obtain ⟨W1, hW1⟩ : ∃ W, W = W0.alloc (.cells (chc ch).toArray 76) := ⟨_, rfl⟩
  obtain ⟨W2, hW2⟩ : ∃ W, W = W1.alloc (.cells #[.slice none 0 0, .int .i64 0] 31) := ⟨_, rfl⟩
  have z0 : W0.heap.size = g + 1 := by rw [hW0, eg]; simp
  have z1 : W1.heap.size = g + 1 + 1 := by rw [hW1, World.size_alloc, z0]
  have z2 : W2.heap.size = g + 1 + 1 + 1 := by rw [hW2, World.size_alloc, z1]
  have hb2 : Below w.heap.size w W2 := by rw [hW2, hW1, hW0]; exact (((Below.refl _ _).alloc (Nat.le_refl _) _).alloc (by simp) _).alloc (by simp <;> omega) _
  have R0 : Row W2 g 31 #[.slice a n c, .int .i64 nx] := by rw [hW2, hW1, hW0, eg]; exact ((Row.new w 31 _).alloc _).alloc _
  have R1 : Row W2 (g + 1) 76 (chc ch).toArray := by rw [hW2, hW1]; exact ((Row.new' 76 _ z0.symm).alloc _)
  have R2 : Row W2 (g + 1 + 1) 31 #[.slice none 0 0, .int .i64 0] := by rw [hW2]; exact (Row.new' 31 _ z1.symm)
  have HW0 := Lib.hid hW0
  have HW1 := Lib.hid hW1
  have HW2 := Lib.hid hW2
  have EG := Lib.hid eg
  have Z0 := Lib.hid z0
  have Z1 := Lib.hid z1
  have Z2 := Lib.hid z2
  have HN := Lib.hid hn
  have HRR1 := Lib.hid R1
  have HRR0 := Lib.hid R0
  have HRR2 := Lib.hid R2
  have HBW := Lib.hid hb2
  have HR0 := Lib.hid (fun X (h : Below W2.heap.size W2 X) => R0.below h R0.lt)
  have HR1 := Lib.hid (fun X (h : Below W2.heap.size W2 X) => R1.below h R1.lt)
  have HR2 := Lib.hid (fun X (h : Below W2.heap.size W2 X) => R2.below h R2.lt)
  have HSX := Lib.hid (fun X (h : Below W2.heap.size W2 X) => (HS.out.bel hb2).bel h)
  have HEND := Lib.hid (fun X cs (h : Below W2.heap.size W2 X) => below_putRow (bel_tr hb2 h) (show w.heap.size ≤ g + 1 + 1 by omega) cs)
  have HB := Lib.hid (Below.refl W2.heap.size W2)
  clear hW0 hW1 hW2 eg z0 z1 z2 hb2 R0 R1 R2 hn
  have q1 : W2.cell? ⟨g + 1, 1, none⟩ = some (.int .i64 ch.id) := (HR1.out _ HB.out).cell 1
  have n65 : n ≤ 1000 := by
    obtain ⟨a', F', c', nx', e', h1', _⟩ := HS.out
    simp only [Value.agg.injEq, Array.mk.injEq, List.cons.injEq, Value.slice.injEq] at e'
    omega
  go_enter Try.func41, Try.ntmps41
  go_wp2_with (first | ((with_reducible show wpList _ _ _ (Oper.mk _ (Op.load _ _) _ _ _ _ :: _) _ _); (refine wpList_load_row rfl 31 (.tmp 2) rfl g rfl 31 #[.slice a n c, .int .i64 nx] (0, 0) _ (HR0.out _ HB.out) Try.underlying31 rfl Try.n31 ?_)) | ((with_reducible show wpList _ _ _ (Oper.mk _ (Op.box _ _) _ _ _ _ :: _) _ _); (first | (refine wpList_box_row rfl 31 (.tmp 0) rfl _ rfl g EG.out ?_; refine wpList_atE HW0.out ?_) | (refine wpList_box_row rfl 76 (.tmp 1) rfl _ rfl (g + 1) Z0.out.symm ?_; refine wpList_atE HW1.out ?_))) | ((with_reducible show wpList _ _ _ (Oper.mk _ (Op.alloc _) _ _ _ _ :: _) _ _); (refine wpList_alloc_row rfl 31 rfl #[.slice none 0 0, .int .i64 0] Try.z31 (g + 1 + 1) Z1.out.symm ?_; refine wpList_atE HW2.out ?_)))
  refine (field_any m _ ch.id _ (by omega) (HSX.out _ HB.out)).mono ?_
  rintro e w1 ⟨⟨f, b, rfl⟩, b1⟩
  have HB1 := Lib.hid (bel_tr HB.out b1)
  clear b1 q1
  obtain ⟨W3, hW3⟩ : ∃ W, W = w1.alloc (.cells (flc f).toArray 126) := ⟨_, rfl⟩
  obtain ⟨g3, hg3⟩ : ∃ x, x = w1.heap.size := ⟨_, rfl⟩
  have R3 : Row W3 g3 126 (flc f).toArray := by rw [hW3]; exact Row.new' 126 _ hg3
  have b3 : Below w1.heap.size w1 W3 := by rw [hW3]; exact (Below.refl _ _).alloc (Nat.le_refl _) _
  have HB3 := Lib.hid (bel_tr HB1.out b3)
  have HR3 := Lib.hid (fun X (h : Below W3.heap.size W3 X) => R3.below h R3.lt)
  have HB33 := Lib.hid (Below.refl W3.heap.size W3)
  have HW3 := Lib.hid hW3
  have HG3 := Lib.hid hg3
  clear hW3 hg3 R3 b3
  have e0 : W3.cell? ⟨g + 1, 0, none⟩ = some (.int .i64 ch.k) := (HR1.out _ HB3.out).cell 0
  cases b with
  | false =>
    go_wp2_with (first | ((with_reducible show wpList _ _ _ (Oper.mk _ (Op.alloc _) _ _ _ _ :: _) _ _); (refine wpList_new_row rfl rfl 126 6 (.tmp 14) rfl rfl rfl rfl g3 HG3.out (flc f).toArray rfl rfl _ Try.z126 Try.n126 rfl (one_fl _) ?_; refine wpList_atE HW3.out ?_)) | ((with_reducible show wpList _ _ _ (Oper.mk _ (Op.store _ _ _) _ _ _ _ :: _) _ _); refine wpList_put_arr rfl 31 (.tmp 4) (.tmp 18) rfl rfl (g + 1 + 1) 31 _ #[.slice none 0 0, .int .i64 0] rfl rfl (HR2.out _ HB3.out) Try.n31 rfl (one_sch _ _ _ _) ?_))
    try simp only [Exit.inBlock, Exit.then]
    refine bodyPost_ret (results_cell_slot (p := 4) (q := 5) (ty := 31) rfl _ _ (g + 1 + 1) 31 #[.slice none 0 0, .int .i64 0] (0, 0) _ rfl (Row.setRow (HR2.out _ HB3.out) _) Try.underlying31 rfl Try.n31) rfl ?_
    exact ⟨⟨_, _, rfl, sch_nil _ _⟩, HEND.out _ _ HB3.out⟩
  | true =>
    by_cases k2 : ch.k = 2
    · have d2 : (ch.k == 2) = true := by simp [k2]
      clear k2
      go_wp2_with (first | ((with_reducible show wpList _ _ _ (Oper.mk _ (Op.alloc _) _ _ _ _ :: _) _ _); (refine wpList_new_row rfl rfl 126 6 (.tmp 14) rfl rfl rfl rfl g3 HG3.out (flc f).toArray rfl rfl _ Try.z126 Try.n126 rfl (one_fl _) ?_; refine wpList_atE HW3.out ?_)))
      go_loopw [8] (fun iv wr => ∃ k : Nat, k ≤ n ∧ iv = .int .i64 k ∧ Below W3.heap.size W3 wr) (fun iv _ => n - (intOf iv).toNat)
      case atStart => exact ⟨0, by omega, rfl, Below.refl _ _⟩
      case round =>
        obtain ⟨k, hk, rfl, hb⟩ := hrel
        have HBr := Lib.hid hb
        have HB3r := Lib.hid (bel_tr HB3.out hb)
        have j0 : wr.cell? ⟨g, 0, none⟩ = some (.slice a n c) := (HR0.out _ HB3r.out).cell 0
        have f0 : wr.cell? ⟨g3, 0, none⟩ = some (.int .i64 f.id) := (HR3.out _ hb).cell 0
        clear hb
        by_cases hkn : k < n
        · have ki : (k : Int) < (n : Int) := by omega
          obtain ⟨a', F', c', nx', e', h1', l'⟩ := HSX.out _ HB3r.out
          simp only [Value.agg.injEq, Array.mk.injEq, List.cons.injEq, Value.slice.injEq] at e'
          obtain ⟨⟨ea, en, _⟩, _⟩ := e'
          subst ea
          obtain ⟨gf, of, rfl, _, hc⟩ := l'.some (by omega)
          obtain ⟨e, he⟩ : ∃ f, F'[k]? = some f := ⟨_, List.getElem?_eq_getElem (by omega)⟩
          have c3 : wr.cell? ⟨gf, of + k * 4 + 3, none⟩ = some (.int .i64 e.pa) := hc k e he 3 _ rfl
          have HKN := Lib.hid hkn
          clear hc he hkn hk l' h1' en
          by_cases ee : e.pa = f.id
          · have d : (e.pa == f.id) = true := by simp [ee]
            clear ee
            go_wp2_with fail
            go_quiet (fail)
            have HBq := Lib.hid (below_drewN HB3r.out nq)
            go_wp2_with (first | ((with_reducible show wpList _ _ _ (Oper.mk _ (Op.store _ _ _) _ _ _ _ :: _) _ _); refine wpList_put_arr rfl 31 (.tmp 4) (.tmp 39) rfl rfl (g + 1 + 1) 31 _ #[.slice none 0 0, .int .i64 0] rfl rfl (HR2.out _ HBq.out) Try.n31 rfl (one_sch _ _ _ _) ?_))
            try simp only [Exit.inBlock, Exit.then]
            refine bodyPost_ret (results_cell_slot (p := 4) (q := 5) (ty := 31) rfl _ _ (g + 1 + 1) 31 #[.slice none 0 0, .int .i64 0] (0, 0) _ rfl (Row.setRow (HR2.out _ HBq.out) _) Try.underlying31 rfl Try.n31) rfl ?_
            exact ⟨⟨_, _, rfl, sch_nil _ _⟩, HEND.out _ _ HBq.out⟩
          · have d : (e.pa == f.id) = false := by simp [ee]
            clear ee
            go_wp2_with fail
            go_quiet (fail)
            have HBq := Lib.hid (below_drewN HBr.out nq)
            go_wp2_with fail
            go_roundw
            case rel => exact ⟨k + 1, HKN.out, by go_num, HBq.out⟩
            case measure => have := HKN.out; simp [intOf] <;> omega
        · have ki : ¬ (k : Int) < (n : Int) := by omega
          clear hkn hk
          go_wp2_with (first | ((with_reducible show wpList _ _ _ (Oper.mk _ (Op.load _ _) _ _ _ _ :: _) _ _); (refine wpList_load_row rfl 31 (.tmp 2) rfl g rfl 31 #[.slice a n c, .int .i64 nx] (0, 0) _ (HR0.out _ HB3r.out) Try.underlying31 rfl Try.n31 ?_)))
          refine (without_any m _ f.id f.id _ (by omega) (HSX.out _ HB3r.out)).mono ?_
          rintro e w5 ⟨⟨v5, rfl, s5⟩, b5⟩
          have HB5 := Lib.hid (bel_tr HB3r.out b5)
          have HS5 := Lib.hid s5
          obtain ⟨a5, F5, c5, nx5, rfl, _⟩ := s5
          clear b5
          go_wp2_with (first | ((with_reducible show wpList _ _ _ (Oper.mk _ (Op.store _ _ _) _ _ _ _ :: _) _ _); refine wpList_put_arr rfl 31 (.tmp 4) (.tmp 46) rfl rfl (g + 1 + 1) 31 _ #[.slice a5 F5.length c5, .int .i64 nx5] rfl rfl (HR2.out _ HB5.out) Try.n31 rfl (one_sch _ _ _ _) ?_))
          try simp only [Exit.inBlock, Exit.then]
          refine bodyPost_ret (results_cell_slot (p := 4) (q := 5) (ty := 31) rfl _ _ (g + 1 + 1) 31 #[.slice a5 F5.length c5, .int .i64 nx5] (0, 0) _ rfl (Row.setRow (HR2.out _ HB5.out) _) Try.underlying31 rfl Try.n31) rfl ?_
          exact ⟨⟨_, _, rfl, (HS5.out.put (HR2.out _ HB5.out) _).le (by omega)⟩, HEND.out _ _ HB5.out⟩
    · have d2 : (ch.k == 2) = false := by simp [k2]
      clear k2
      by_cases k3 : ch.k = 3
      · have d3 : (ch.k == 3) = true := by simp [k3]
        clear k3
        have q3 : W3.cell? ⟨g + 1, 3, none⟩ = some (.string ch.nm) := (HR1.out _ HB3.out).cell 3
        obtain ⟨f2, hf2⟩ : ∃ f2, f2 = Fl.mk f.id ch.nm ch.hn f.ty f.pa := ⟨_, rfl⟩
        obtain ⟨W4, hW4⟩ : ∃ W, W = W3.setCell ⟨g3, 1, none⟩ (.string ch.nm) := ⟨_, rfl⟩
        have bb4 : Below W2.heap.size W2 W4 := by rw [hW4]; exact HB3.out.setCell (p := ⟨g3, 1, none⟩) (by have := HB1.out.size; have := HG3.out; show W2.heap.size ≤ g3; omega) _
        have R4 : Row W4 g3 126 (flc f2).toArray := by rw [hW4, hf2]; exact (HR3.out _ HB33.out).set 1 _
        have u1 : W3.cell? ⟨g3, 1, none⟩ = some (.string f.nm) := (HR3.out _ HB33.out).cell 1
        have u2 := (HR3.out _ HB33.out).frozen 1
        have HW4 := Lib.hid hW4.symm
        have HB4 := Lib.hid bb4
        have HR4 := Lib.hid (fun X (h : Below W4.heap.size W4 X) => R4.below h R4.lt)
        have HB44 := Lib.hid (Below.refl W4.heap.size W4)
        clear hf2 hW4 bb4 R4
        have v0 : W4.cell? ⟨g3, 0, none⟩ = some (.int .i64 f2.id) := (HR4.out _ HB44.out).cell 0
        go_upto_region 14 with (first | ((with_reducible show wpList _ _ _ (Oper.mk _ (Op.alloc _) _ _ _ _ :: _) _ _); (refine wpList_new_row rfl rfl 126 6 (.tmp 14) rfl rfl rfl rfl g3 HG3.out (flc f).toArray rfl rfl _ Try.z126 Try.n126 rfl (one_fl _) ?_; refine wpList_atE HW3.out ?_)))
        rw [HW4.out]
        clear q3 u1 u2 e0
        go_wp2_with (first | ((with_reducible show wpList _ _ _ (Oper.mk _ (Op.load _ _) _ _ _ _ :: _) _ _); first | (refine wpList_load_row rfl 31 (.tmp 2) rfl g rfl 31 #[.slice a n c, .int .i64 nx] (0, 0) _ (HR0.out _ HB4.out) Try.underlying31 rfl Try.n31 ?_) | (refine wpList_load_row rfl 126 (.tmp 6) rfl g3 rfl 126 (flc f2).toArray (0, 0) _ (HR4.out _ HB44.out) Try.underlying126 rfl Try.n126 ?_)))
        refine (taken_any m _ f2 f2.id f2.id _ (by omega) (HSX.out _ HB4.out)).mono ?_
        rintro e w6 ⟨⟨b, rfl⟩, b6⟩
        have HB6 := Lib.hid (bel_tr HB4.out b6)
        have HB46 := Lib.hid b6
        clear b6 v0
        cases b with
        | true =>
          go_wp2_with (first | ((with_reducible show wpList _ _ _ (Oper.mk _ (Op.store _ _ _) _ _ _ _ :: _) _ _); refine wpList_put_arr rfl 31 (.tmp 4) (.tmp 60) rfl rfl (g + 1 + 1) 31 _ #[.slice none 0 0, .int .i64 0] rfl rfl (HR2.out _ HB6.out) Try.n31 rfl (one_sch _ _ _ _) ?_))
          try simp only [Exit.inBlock, Exit.then]
          refine bodyPost_ret (results_cell_slot (p := 4) (q := 5) (ty := 31) rfl _ _ (g + 1 + 1) 31 #[.slice none 0 0, .int .i64 0] (0, 0) _ rfl (Row.setRow (HR2.out _ HB6.out) _) Try.underlying31 rfl Try.n31) rfl ?_
          exact ⟨⟨_, _, rfl, sch_nil _ _⟩, HEND.out _ _ HB6.out⟩
        | false =>
          go_wp2_with (first | ((with_reducible show wpList _ _ _ (Oper.mk _ (Op.load _ _) _ _ _ _ :: _) _ _); first | (refine wpList_load_row rfl 31 (.tmp 2) rfl g rfl 31 #[.slice a n c, .int .i64 nx] (0, 0) _ (HR0.out _ HB6.out) Try.underlying31 rfl Try.n31 ?_) | (refine wpList_load_row rfl 126 (.tmp 6) rfl g3 rfl 126 (flc f2).toArray (0, 0) _ (HR4.out _ HB46.out) Try.underlying126 rfl Try.n126 ?_)))
          refine (with_any m _ f2 _ (by omega) (HSX.out _ HB6.out)).mono ?_
          rintro e w5 ⟨⟨v5, rfl, s5⟩, b5⟩
          have HB5 := Lib.hid (bel_tr HB6.out b5)
          have HS5 := Lib.hid s5
          obtain ⟨a5, F5, c5, nx5, rfl, _⟩ := s5
          clear b5
          go_wp2_with (first | ((with_reducible show wpList _ _ _ (Oper.mk _ (Op.store _ _ _) _ _ _ _ :: _) _ _); refine wpList_put_arr rfl 31 (.tmp 4) (.tmp 63) rfl rfl (g + 1 + 1) 31 _ #[.slice a5 F5.length c5, .int .i64 nx5] rfl rfl (HR2.out _ HB5.out) Try.n31 rfl (one_sch _ _ _ _) ?_))
          try simp only [Exit.inBlock, Exit.then]
          refine bodyPost_ret (results_cell_slot (p := 4) (q := 5) (ty := 31) rfl _ _ (g + 1 + 1) 31 #[.slice a5 F5.length c5, .int .i64 nx5] (0, 0) _ rfl (Row.setRow (HR2.out _ HB5.out) _) Try.underlying31 rfl Try.n31) rfl ?_
          exact ⟨⟨_, _, rfl, (HS5.out.put (HR2.out _ HB5.out) _).le (by omega)⟩, HEND.out _ _ HB5.out⟩
      · have d3 : (ch.k == 3) = false := by simp [k3]
        clear k3
        by_cases k4 : ch.k = 4
        · have d4 : (ch.k == 4) = true := by simp [k4]
          clear k4
          have v2 : W3.cell? ⟨g3, 2, none⟩ = some (.int .i64 f.ty) := (HR3.out _ HB33.out).cell 2
          by_cases t2 : f.ty = 2
          · have e2 : (f.ty != 2) = false := by simp [t2]
            clear t2
            obtain ⟨f2, hf2⟩ : ∃ f2, f2 = Fl.mk f.id f.nm f.sz 3 f.pa := ⟨_, rfl⟩
            obtain ⟨W4, hW4⟩ : ∃ W, W = W3.setCell ⟨g3, 2, none⟩ (.int .i64 3) := ⟨_, rfl⟩
            have bb4 : Below W2.heap.size W2 W4 := by rw [hW4]; exact HB3.out.setCell (p := ⟨g3, 2, none⟩) (by have := HB1.out.size; have := HG3.out; show W2.heap.size ≤ g3; omega) _
            have R4 : Row W4 g3 126 (flc f2).toArray := by rw [hW4, hf2]; exact (HR3.out _ HB33.out).set 2 _
            have u1 : W3.cell? ⟨g3, 2, none⟩ = some (.int .i64 f.ty) := (HR3.out _ HB33.out).cell 2
            have u2 := (HR3.out _ HB33.out).frozen 2
            have HW4 := Lib.hid hW4.symm
            have HB4 := Lib.hid bb4
            have HR4 := Lib.hid (fun X (h : Below W4.heap.size W4 X) => R4.below h R4.lt)
            have HB44 := Lib.hid (Below.refl W4.heap.size W4)
            clear hf2 hW4 bb4 R4
            clear u1
            go_upto_region 21 with (first | ((with_reducible show wpList _ _ _ (Oper.mk _ (Op.alloc _) _ _ _ _ :: _) _ _); (refine wpList_new_row rfl rfl 126 6 (.tmp 14) rfl rfl rfl rfl g3 HG3.out (flc f).toArray rfl rfl _ Try.z126 Try.n126 rfl (one_fl _) ?_; refine wpList_atE HW3.out ?_)))
            rw [HW4.out]
            clear u2 v2 e0
            go_wp2_with (first | ((with_reducible show wpList _ _ _ (Oper.mk _ (Op.load _ _) _ _ _ _ :: _) _ _); first | (refine wpList_load_row rfl 31 (.tmp 2) rfl g rfl 31 #[.slice a n c, .int .i64 nx] (0, 0) _ (HR0.out _ HB4.out) Try.underlying31 rfl Try.n31 ?_) | (refine wpList_load_row rfl 126 (.tmp 6) rfl g3 rfl 126 (flc f2).toArray (0, 0) _ (HR4.out _ HB44.out) Try.underlying126 rfl Try.n126 ?_)))
            refine (with_any m _ f2 _ (by omega) (HSX.out _ HB4.out)).mono ?_
            rintro e w5 ⟨⟨v5, rfl, s5⟩, b5⟩
            have HB5 := Lib.hid (bel_tr HB4.out b5)
            have HS5 := Lib.hid s5
            obtain ⟨a5, F5, c5, nx5, rfl, _⟩ := s5
            clear b5
            go_wp2_with (first | ((with_reducible show wpList _ _ _ (Oper.mk _ (Op.store _ _ _) _ _ _ _ :: _) _ _); refine wpList_put_arr rfl 31 (.tmp 4) (.tmp 73) rfl rfl (g + 1 + 1) 31 _ #[.slice a5 F5.length c5, .int .i64 nx5] rfl rfl (HR2.out _ HB5.out) Try.n31 rfl (one_sch _ _ _ _) ?_))
            try simp only [Exit.inBlock, Exit.then]
            refine bodyPost_ret (results_cell_slot (p := 4) (q := 5) (ty := 31) rfl _ _ (g + 1 + 1) 31 #[.slice a5 F5.length c5, .int .i64 nx5] (0, 0) _ rfl (Row.setRow (HR2.out _ HB5.out) _) Try.underlying31 rfl Try.n31) rfl ?_
            exact ⟨⟨_, _, rfl, (HS5.out.put (HR2.out _ HB5.out) _).le (by omega)⟩, HEND.out _ _ HB5.out⟩
          · have e2 : (f.ty != 2) = true := by simp [t2]
            clear t2
            go_wp2_with (first | ((with_reducible show wpList _ _ _ (Oper.mk _ (Op.alloc _) _ _ _ _ :: _) _ _); (refine wpList_new_row rfl rfl 126 6 (.tmp 14) rfl rfl rfl rfl g3 HG3.out (flc f).toArray rfl rfl _ Try.z126 Try.n126 rfl (one_fl _) ?_; refine wpList_atE HW3.out ?_)) | ((with_reducible show wpList _ _ _ (Oper.mk _ (Op.store _ _ _) _ _ _ _ :: _) _ _); refine wpList_put_arr rfl 31 (.tmp 4) (.tmp 69) rfl rfl (g + 1 + 1) 31 _ #[.slice none 0 0, .int .i64 0] rfl rfl (HR2.out _ HB3.out) Try.n31 rfl (one_sch _ _ _ _) ?_))
            try simp only [Exit.inBlock, Exit.then]
            refine bodyPost_ret (results_cell_slot (p := 4) (q := 5) (ty := 31) rfl _ _ (g + 1 + 1) 31 #[.slice none 0 0, .int .i64 0] (0, 0) _ rfl (Row.setRow (HR2.out _ HB3.out) _) Try.underlying31 rfl Try.n31) rfl ?_
            exact ⟨⟨_, _, rfl, sch_nil _ _⟩, HEND.out _ _ HB3.out⟩
        · have d4 : (ch.k == 4) = false := by simp [k4]
          clear k4
          have q6 : W3.cell? ⟨g + 1, 6, none⟩ = some (.int .i64 ch.pa) := (HR1.out _ HB3.out).cell 6
          go_wp2_with (first | ((with_reducible show wpList _ _ _ (Oper.mk _ (Op.load _ _) _ _ _ _ :: _) _ _); first | (refine wpList_load_row rfl 31 (.tmp 2) rfl g rfl 31 #[.slice a n c, .int .i64 nx] (0, 0) _ (HR0.out _ HB3.out) Try.underlying31 rfl Try.n31 ?_) | (refine wpList_load_row rfl 126 (.tmp 6) rfl g3 rfl 126 (flc f).toArray (0, 0) _ (HR3.out _ HB33.out) Try.underlying126 rfl Try.n126 ?_)) | ((with_reducible show wpList _ _ _ (Oper.mk _ (Op.alloc _) _ _ _ _ :: _) _ _); (refine wpList_new_row rfl rfl 126 6 (.tmp 14) rfl rfl rfl rfl g3 HG3.out (flc f).toArray rfl rfl _ Try.z126 Try.n126 rfl (one_fl _) ?_; refine wpList_atE HW3.out ?_)))
          refine (move_any m _ f ch.pa _ (by omega) (HSX.out _ HB3.out)).mono ?_
          rintro e w5 ⟨⟨v5, x5, rfl, s5⟩, b5⟩
          have HB5 := Lib.hid (bel_tr HB3.out b5)
          have HS5 := Lib.hid s5
          obtain ⟨a5, F5, c5, nx5, rfl, _⟩ := s5
          clear b5 q6 e0
          go_wp2_with (first | ((with_reducible show wpList _ _ _ (Oper.mk _ (Op.store _ _ _) _ _ _ _ :: _) _ _); refine wpList_put_arr rfl 31 (.tmp 4) (.tmp 79) rfl rfl (g + 1 + 1) 31 _ #[.slice a5 F5.length c5, .int .i64 nx5] rfl rfl (HR2.out _ HB5.out) Try.n31 rfl (one_sch _ _ _ _) ?_))
          try simp only [Exit.inBlock, Exit.then]
          refine bodyPost_ret (results_cell_slot (p := 4) (q := 5) (ty := 31) rfl _ _ (g + 1 + 1) 31 #[.slice a5 F5.length c5, .int .i64 nx5] (0, 0) _ rfl (Row.setRow (HR2.out _ HB5.out) _) Try.underlying31 rfl Try.n31) rfl ?_
          exact ⟨⟨_, _, rfl, (HS5.out.put (HR2.out _ HB5.out) _).le (by omega)⟩, HEND.out _ _ HB5.out⟩
end Go.Proofs.Ytkonoojmhjinpaa
