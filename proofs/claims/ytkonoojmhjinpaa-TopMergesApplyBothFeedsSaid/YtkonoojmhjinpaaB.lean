/- Contracts: Field, group, depth, inside. -/
import Derived.Test.YtkonoojmhjinpaaA
set_option linter.all false
namespace Go.Proofs.Ytkonoojmhjinpaa
open Go.RowKit Go.Fen
set_option linter.unusedVariables false
set_option maxHeartbeats 4000000

/-- a field and whether there is one -/
def RetFl (e : Ending) : Prop := ∃ (f : Fl) (b : Bool), e = .returned (.tuple #[.agg #[.int .i64 f.id, .string f.nm, .int .i64 f.ty, .int .i64 f.pa], .bool b])

theorem field_any (m : Nat) (v : Value) (id : Int) (w : World) (hm : m ≤ 1000) (hS : Sch m w v) : Calls Try.prog 62 #[v, .int .i64 id] w fun e w' => RetFl e ∧ Below w.heap.size w w' := by
  obtain ⟨a, F, c, nx, rfl, hF, hL⟩ := hS
  obtain ⟨n, hn⟩ : ∃ n, n = F.length := ⟨_, rfl⟩
  rw [← hn]
  have n6 : n ≤ 1000 := by omega
  obtain ⟨g, eg⟩ : ∃ g, g = w.heap.size := ⟨_, rfl⟩
  obtain ⟨W0, hW0⟩ : ∃ W, W = w.alloc (.cells #[.slice a n c, .int .i64 nx] 31) := ⟨_, rfl⟩
  obtain ⟨W1, hW1⟩ : ∃ W, W = W0.alloc (.cells #[.int .i64 0, .string ⟨#[]⟩, .int .i64 0, .int .i64 0] 126) := ⟨_, rfl⟩
  have z0 : W0.heap.size = g + 1 := by rw [hW0, eg]; simp
  have hb : Below w.heap.size w W1 := by rw [hW1, hW0]; exact ((Below.refl _ _).alloc (Nat.le_refl _) _).alloc (by simp) _
  have R0 : Row W1 g 31 #[.slice a n c, .int .i64 nx] := by rw [hW1, hW0, eg]; exact (Row.new w 31 _).alloc _
  have R1 : Row W1 (g + 1) 126 #[.int .i64 0, .string ⟨#[]⟩, .int .i64 0, .int .i64 0] := by rw [hW1]; exact Row.new' 126 _ z0.symm
  have k0 := R0.cell 0
  simp only [List.getElem?_toArray, List.getElem?_cons_zero] at k0
  have HW0 := Lib.hid hW0
  have HW1 := Lib.hid hW1
  have EG := Lib.hid eg
  have Z0 := Lib.hid z0
  have HB := Lib.hid hb
  have HL := Lib.hid (hL.bel hb)
  have HN := Lib.hid hn
  have HR1 := Lib.hid R1
  have HBP := Lib.hid (fun cs => below_putRow hb (show w.heap.size ≤ g + 1 by omega) cs)
  clear hW0 hW1 eg z0 hb R0 R1 hL hn hF
  go_enter Try.func62, Try.ntmps62
  go_wp2_with (first | ((with_reducible show wpList _ _ _ (Oper.mk _ (Op.box _ _) _ _ _ _ :: _) _ _); (refine wpList_box_row rfl 31 (.tmp 0) rfl _ rfl g EG.out ?_; refine wpList_atE HW0.out ?_)) | ((with_reducible show wpList _ _ _ (Oper.mk _ (Op.alloc _) _ _ _ _ :: _) _ _); (refine wpList_alloc_row rfl 126 rfl #[.int .i64 0, .string ⟨#[]⟩, .int .i64 0, .int .i64 0] Try.z126 (g + 1) Z0.out.symm ?_; refine wpList_atE HW1.out ?_)))
  go_loopw [6] (fun iv wr => ∃ k : Nat, k ≤ n ∧ iv = .int .i64 k ∧ wr = W1) (fun iv _ => n - (intOf iv).toNat)
  case atStart => exact ⟨0, by omega, rfl, rfl⟩
  case round =>
    obtain ⟨k, hk, rfl, rfl⟩ := hrel
    by_cases hkn : k < n
    · have ki : (k : Int) < (n : Int) := by omega
      obtain ⟨gf, of, rfl, _, hc⟩ := HL.out.some (by rw [← HN.out]; omega)
      have hlt : k < F.length := by rw [← HN.out]; exact hkn
      obtain ⟨f, hf⟩ : ∃ f, F[k]? = some f := ⟨_, List.getElem?_eq_getElem hlt⟩
      have hr := hc k f hf
      have c0 : wr.cell? ⟨gf, of + k * 4, none⟩ = some (.int .i64 f.id) := by have := hr 0 _ rfl; rw [Nat.add_zero] at this; exact this
      have HR := Lib.hid hr
      have HKN := Lib.hid hkn
      clear hc hlt hf hr hkn hk
      by_cases e : f.id = id
      · have e1 : (f.id == id) = true := by simp [e]
        clear e
        go_wp2_with (first | ((with_reducible show wpList _ _ _ (Oper.mk _ (Op.load _ _) _ _ _ _ :: _) _ _); refine wpList_load_mid rfl 126 (.tmp 25) rfl gf (of + k * 4) rfl (flc f) _ HR.out Try.underlying126 rfl Try.n126 ?_) | ((with_reducible show wpList _ _ _ (Oper.mk _ (Op.store _ _ _) _ _ _ _ :: _) _ _); refine wpList_put_arr rfl 126 (.tmp 4) (.tmp 26) rfl rfl (g + 1) 126 _ (flc f).toArray rfl rfl HR1.out Try.n126 rfl (one_fl f) ?_))
        try simp only [Exit.inBlock, Exit.then]
        refine bodyPost_ret (results_cell_slot (p := 4) (q := 5) (ty := 126) rfl _ _ (g + 1) 126 (flc f).toArray (0, 0) _ rfl (Row.setRow HR1.out _) Try.underlying126 rfl Try.n126) rfl ?_
        exact ⟨⟨f, true, rfl⟩, HBP.out _⟩
      · have e1 : (f.id == id) = false := by simp [e]
        clear e
        go_wp2_with fail
        go_roundw
        case rel => exact ⟨k + 1, HKN.out, by go_num, by first | rfl | trivial⟩
        case measure => have := HKN.out; simp [intOf] <;> omega
    · have ki : ¬ (k : Int) < (n : Int) := by omega
      clear hkn hk
      go_wp2_with (first | ((with_reducible show wpList _ _ _ (Oper.mk _ (Op.store _ _ _) _ _ _ _ :: _) _ _); refine wpList_put_arr rfl 126 (.tmp 4) (.tmp 27) rfl rfl (g + 1) 126 _ #[.int .i64 0, .string ⟨#[]⟩, .int .i64 0, .int .i64 0] rfl rfl HR1.out Try.n126 rfl (one_fl ⟨0, ⟨#[]⟩, by decide, 0, 0⟩) ?_))
      try simp only [Exit.inBlock, Exit.then]
      refine bodyPost_ret (results_cell_slot (p := 4) (q := 5) (ty := 126) rfl _ _ (g + 1) 126 #[.int .i64 0, .string ⟨#[]⟩, .int .i64 0, .int .i64 0] (0, 0) _ rfl (Row.setRow HR1.out _) Try.underlying126 rfl Try.n126) rfl ?_
      exact ⟨⟨⟨0, ⟨#[]⟩, by decide, 0, 0⟩, false, rfl⟩, HBP.out _⟩

/-- the schema is boxed -/
theorem group_any (m : Nat) (v : Value) (id : Int) (w : World) (hm : m ≤ 1000) (hS : Sch m w v) : Calls Try.prog 47 #[v, .int .i64 id] w fun e w' => RetB e ∧ Below w.heap.size w w' := by
  have HS := Lib.hid hS
  obtain ⟨a, F, c, nx, rfl, _⟩ := hS
  obtain ⟨n, hn⟩ : ∃ n, n = F.length := ⟨_, rfl⟩
  rw [← hn] at HS ⊢
  obtain ⟨g, eg⟩ : ∃ g, g = w.heap.size := ⟨_, rfl⟩
  obtain ⟨W0, hW0⟩ : ∃ W, W = w.alloc (.cells #[.slice a n c, .int .i64 nx] 31) := ⟨_, rfl⟩
  have hb : Below w.heap.size w W0 := by rw [hW0]; exact (Below.refl _ _).alloc (Nat.le_refl _) _
  have R0 : Row W0 g 31 #[.slice a n c, .int .i64 nx] := by rw [hW0]; exact Row.new' 31 _ eg
  have HC := Lib.hid (field_any m _ id W0 hm (HS.out.bel hb))
  have HW0 := Lib.hid hW0
  have EG := Lib.hid eg
  have HB := Lib.hid hb
  have HR0 := Lib.hid R0
  clear hW0 eg hb R0 hn
  go_enter Try.func47, Try.ntmps47
  go_wp2_with (first | ((with_reducible show wpList _ _ _ (Oper.mk _ (Op.box _ _) _ _ _ _ :: _) _ _); (refine wpList_box_row rfl 31 (.tmp 0) rfl _ rfl g EG.out ?_; refine wpList_atE HW0.out ?_)) | ((with_reducible show wpList _ _ _ (Oper.mk _ (Op.load _ _) _ _ _ _ :: _) _ _); refine wpList_load_row rfl 31 (.tmp 2) rfl g rfl 31 #[.slice a n c, .int .i64 nx] (0, 0) _ HR0.out Try.underlying31 rfl Try.n31 ?_))
  refine HC.out.mono ?_
  rintro e w1 ⟨⟨f, b, rfl⟩, b1⟩
  obtain ⟨g5, hg5⟩ : ∃ x, x = w1.heap.size := ⟨_, rfl⟩
  obtain ⟨W2, hW2⟩ : ∃ W, W = w1.alloc (.cells (flc f).toArray 126) := ⟨_, rfl⟩
  have HB2 := Lib.hid (show Below w.heap.size w W2 by rw [hW2]; exact (bel_tr HB.out b1).alloc (Nat.le_trans HB.out.size b1.size) _)
  have R2 : Row W2 g5 126 (flc f).toArray := by rw [hW2]; exact Row.new' 126 _ hg5
  have q2 : W2.cell? ⟨g5, 2, none⟩ = some (.int .i64 f.ty) := R2.cell 2
  have HG5 := Lib.hid hg5
  have HW2 := Lib.hid hW2
  clear hg5 hW2 b1 R2
  by_cases h0 : id = 0
  · have e0 : (id == 0) = true := by simp [h0]
    clear h0
    go_wp2_with (first | ((with_reducible show wpList _ _ _ (Oper.mk _ (Op.alloc _) _ _ _ _ :: _) _ _); (refine wpList_new_row rfl rfl 126 5 (.tmp 11) rfl rfl rfl rfl g5 HG5.out (flc f).toArray rfl rfl _ Try.z126 Try.n126 rfl (one_fl f) ?_; refine wpList_atE HW2.out ?_)))
    go_ret
    exact ⟨retB _, HB2.out⟩
  · have e0 : (id == 0) = false := by simp [h0]
    clear h0
    cases b with
    | true =>
      go_wp2_with (first | ((with_reducible show wpList _ _ _ (Oper.mk _ (Op.alloc _) _ _ _ _ :: _) _ _); (refine wpList_new_row rfl rfl 126 5 (.tmp 11) rfl rfl rfl rfl g5 HG5.out (flc f).toArray rfl rfl _ Try.z126 Try.n126 rfl (one_fl f) ?_; refine wpList_atE HW2.out ?_)))
      go_ret
      exact ⟨retB _, HB2.out⟩
    | false =>
      go_wp2_with (first | ((with_reducible show wpList _ _ _ (Oper.mk _ (Op.alloc _) _ _ _ _ :: _) _ _); (refine wpList_new_row rfl rfl 126 5 (.tmp 11) rfl rfl rfl rfl g5 HG5.out (flc f).toArray rfl rfl _ Try.z126 Try.n126 rfl (one_fl f) ?_; refine wpList_atE HW2.out ?_)))
      go_ret
      exact ⟨retB _, HB2.out⟩

theorem depth_any (m : Nat) (v : Value) (id : Int) (w : World) (hm : m ≤ 1000) (hS : Sch m w v) : Calls Try.prog 59 #[v, .int .i64 id] w fun e w' => RetI e ∧ Below w.heap.size w w' := by
  have HS := Lib.hid hS
  obtain ⟨a, F, c, nx, rfl, _⟩ := hS
  obtain ⟨n, hn⟩ : ∃ n, n = F.length := ⟨_, rfl⟩
  rw [← hn] at HS ⊢
  obtain ⟨g, eg⟩ : ∃ g, g = w.heap.size := ⟨_, rfl⟩
  obtain ⟨W0, hW0⟩ : ∃ W, W = w.alloc (.cells #[.slice a n c, .int .i64 nx] 31) := ⟨_, rfl⟩
  have hb : Below w.heap.size w W0 := by rw [hW0]; exact (Below.refl _ _).alloc (Nat.le_refl _) _
  have R0 : Row W0 g 31 #[.slice a n c, .int .i64 nx] := by rw [hW0]; exact Row.new' 31 _ eg
  have HC := Lib.hid (fun (z : Int) (W : World) (h : Below W0.heap.size W0 W) => field_any m _ z W hm ((HS.out.bel hb).bel h))
  have HW0 := Lib.hid hW0
  have EG := Lib.hid eg
  have HB := Lib.hid hb
  have HR0 := Lib.hid R0
  clear hW0 eg hb R0 hn
  go_enter Try.func59, Try.ntmps59
  go_wp2_with (first | ((with_reducible show wpList _ _ _ (Oper.mk _ (Op.box _ _) _ _ _ _ :: _) _ _); (refine wpList_box_row rfl 31 (.tmp 0) rfl _ rfl g EG.out ?_; refine wpList_atE HW0.out ?_)))
  go_loopw [1, 5, 6, 7] (fun iv nv _ _ wr => ∃ (z : Int) (k : Nat), k ≤ 9 ∧ iv = .int .i64 z ∧ nv = .int .i64 k ∧ Below W0.heap.size W0 wr) (fun _ nv _ _ _ => 10 - (intOf nv).toNat)
  case atStart => exact ⟨id, 0, by omega, rfl, rfl, Below.refl _ _⟩
  case round =>
    obtain ⟨z, k, hk, rfl, rfl, hb⟩ := hrel
    have HBr := Lib.hid hb
    have HRr := Lib.hid (HR0.out.below hb HR0.out.lt)
    clear hb
    by_cases hz : z = 0
    · have e0 : (z != 0) = false := by simp [hz]
      clear hz
      go_wp2_with fail
      go_ret
      exact ⟨retI _, bel_tr HB.out HBr.out⟩
    · have e0 : (z != 0) = true := by simp [hz]
      clear hz
      by_cases h8 : k ≤ 8
      · have d8 : decide (k ≤ 8) = true := decide_eq_true h8
        have i8 : (k : Int) ≤ 8 := by omega
        have H8 := Lib.hid h8
        clear h8
        go_wp2_with (first | ((with_reducible show wpList _ _ _ (Oper.mk _ (Op.load _ _) _ _ _ _ :: _) _ _); refine wpList_load_row rfl 31 (.tmp 2) rfl g rfl 31 #[.slice a n c, .int .i64 nx] (0, 0) _ HRr.out Try.underlying31 rfl Try.n31 ?_))
        refine (HC.out z _ HBr.out).mono ?_
        rintro e w1 ⟨⟨f, b, rfl⟩, b1⟩
        obtain ⟨g5, hg5⟩ : ∃ x, x = w1.heap.size := ⟨_, rfl⟩
        obtain ⟨W2, hW2⟩ : ∃ W, W = w1.alloc (.cells (flc f).toArray 126) := ⟨_, rfl⟩
        have HB2 := Lib.hid (show Below W0.heap.size W0 W2 by rw [hW2]; exact (bel_tr HBr.out b1).alloc (Nat.le_trans HBr.out.size b1.size) _)
        have R2 : Row W2 g5 126 (flc f).toArray := by rw [hW2]; exact Row.new' 126 _ hg5
        have q2 : W2.cell? ⟨g5, 3, none⟩ = some (.int .i64 f.pa) := R2.cell 3
        have HG5 := Lib.hid hg5
        have HW2 := Lib.hid hW2
        clear hg5 hW2 b1 R2
        cases b with
        | true =>
          go_wp2_with (first | ((with_reducible show wpList _ _ _ (Oper.mk _ (Op.alloc _) _ _ _ _ :: _) _ _); (refine wpList_new_row rfl rfl 126 6 (.tmp 18) rfl rfl rfl rfl g5 HG5.out (flc f).toArray rfl rfl _ Try.z126 Try.n126 rfl (one_fl f) ?_; refine wpList_atE HW2.out ?_)))
          go_roundw
          case rel => exact ⟨f.pa, k + 1, by have := H8.out; omega, rfl, by go_num, HB2.out⟩
          case measure => have := H8.out; simp [intOf] <;> omega
        | false =>
          go_wp2_with (first | ((with_reducible show wpList _ _ _ (Oper.mk _ (Op.alloc _) _ _ _ _ :: _) _ _); (refine wpList_new_row rfl rfl 126 6 (.tmp 18) rfl rfl rfl rfl g5 HG5.out (flc f).toArray rfl rfl _ Try.z126 Try.n126 rfl (one_fl f) ?_; refine wpList_atE HW2.out ?_)))
          first | go_ret | (try simp only [Exit.inBlock, Exit.then]); go_ret
          exact ⟨retI _, bel_tr HB.out HB2.out⟩
      · have d8 : decide (k ≤ 8) = false := decide_eq_false h8
        have i8 : decide ((k : Int) ≤ 8) = false := decide_eq_false (by omega)
        clear h8
        go_wp2_with fail
        go_ret
        exact ⟨retI _, bel_tr HB.out HBr.out⟩

theorem inside_any (m : Nat) (v : Value) (id gr : Int) (w : World) (hm : m ≤ 1000) (hS : Sch m w v) : Calls Try.prog 80 #[v, .int .i64 id, .int .i64 gr] w fun e w' => RetB e ∧ Below w.heap.size w w' := by
  have HS := Lib.hid hS
  obtain ⟨a, F, c, nx, rfl, _⟩ := hS
  obtain ⟨n, hn⟩ : ∃ n, n = F.length := ⟨_, rfl⟩
  rw [← hn] at HS ⊢
  obtain ⟨g, eg⟩ : ∃ g, g = w.heap.size := ⟨_, rfl⟩
  obtain ⟨W0, hW0⟩ : ∃ W, W = w.alloc (.cells #[.slice a n c, .int .i64 nx] 31) := ⟨_, rfl⟩
  have hb : Below w.heap.size w W0 := by rw [hW0]; exact (Below.refl _ _).alloc (Nat.le_refl _) _
  have R0 : Row W0 g 31 #[.slice a n c, .int .i64 nx] := by rw [hW0]; exact Row.new' 31 _ eg
  have HC := Lib.hid (fun (z : Int) (W : World) (h : Below W0.heap.size W0 W) => field_any m _ z W hm ((HS.out.bel hb).bel h))
  have HW0 := Lib.hid hW0
  have EG := Lib.hid eg
  have HB := Lib.hid hb
  have HR0 := Lib.hid R0
  clear hW0 eg hb R0 hn
  go_enter Try.func80, Try.ntmps80
  go_wp2_with (first | ((with_reducible show wpList _ _ _ (Oper.mk _ (Op.box _ _) _ _ _ _ :: _) _ _); (refine wpList_box_row rfl 31 (.tmp 0) rfl _ rfl g EG.out ?_; refine wpList_atE HW0.out ?_)))
  go_loopw [1, 7, 8, 9] (fun iv nv _ _ wr => ∃ (z : Int) (k : Nat), k ≤ 9 ∧ iv = .int .i64 z ∧ nv = .int .i64 k ∧ Below W0.heap.size W0 wr) (fun _ nv _ _ _ => 10 - (intOf nv).toNat)
  case atStart => exact ⟨id, 0, by omega, rfl, rfl, Below.refl _ _⟩
  case round =>
    obtain ⟨z, k, hk, rfl, rfl, hb⟩ := hrel
    have HBr := Lib.hid hb
    have HRr := Lib.hid (HR0.out.below hb HR0.out.lt)
    clear hb
    by_cases hz : z = 0
    · have e0 : (z != 0) = false := by simp [hz]
      clear hz
      go_wp2_with fail
      go_ret
      exact ⟨retB _, bel_tr HB.out HBr.out⟩
    · have e0 : (z != 0) = true := by simp [hz]
      clear hz
      by_cases h8 : k ≤ 8
      · have d8 : decide (k ≤ 8) = true := decide_eq_true h8
        have i8 : (k : Int) ≤ 8 := by omega
        have H8 := Lib.hid h8
        clear h8
        by_cases hg : z = gr
        · have eg : (z == gr) = true := by simp [hg]
          clear hg
          go_wp2_with fail
          first | go_ret | (try simp only [Exit.inBlock, Exit.then]); go_ret
          exact ⟨retB _, bel_tr HB.out HBr.out⟩
        · have eg : (z == gr) = false := by simp [hg]
          clear hg
          go_wp2_with (first | ((with_reducible show wpList _ _ _ (Oper.mk _ (Op.load _ _) _ _ _ _ :: _) _ _); refine wpList_load_row rfl 31 (.tmp 3) rfl g rfl 31 #[.slice a n c, .int .i64 nx] (0, 0) _ HRr.out Try.underlying31 rfl Try.n31 ?_))
          refine (HC.out z _ HBr.out).mono ?_
          rintro e w1 ⟨⟨f, b, rfl⟩, b1⟩
          obtain ⟨g5, hg5⟩ : ∃ x, x = w1.heap.size := ⟨_, rfl⟩
          obtain ⟨W2, hW2⟩ : ∃ W, W = w1.alloc (.cells (flc f).toArray 126) := ⟨_, rfl⟩
          have HB2 := Lib.hid (show Below W0.heap.size W0 W2 by rw [hW2]; exact (bel_tr HBr.out b1).alloc (Nat.le_trans HBr.out.size b1.size) _)
          have R2 : Row W2 g5 126 (flc f).toArray := by rw [hW2]; exact Row.new' 126 _ hg5
          have q2 : W2.cell? ⟨g5, 3, none⟩ = some (.int .i64 f.pa) := R2.cell 3
          have HG5 := Lib.hid hg5
          have HW2 := Lib.hid hW2
          clear hg5 hW2 b1 R2
          go_wp2_with (first | ((with_reducible show wpList _ _ _ (Oper.mk _ (Op.alloc _) _ _ _ _ :: _) _ _); (refine wpList_new_row rfl rfl 126 8 (.tmp 25) rfl rfl rfl rfl g5 HG5.out (flc f).toArray rfl rfl _ Try.z126 Try.n126 rfl (one_fl f) ?_; refine wpList_atE HW2.out ?_)))
          go_roundw
          case rel => exact ⟨f.pa, k + 1, by have := H8.out; omega, rfl, by go_num, HB2.out⟩
          case measure => have := H8.out; simp [intOf] <;> omega
      · have d8 : decide (k ≤ 8) = false := decide_eq_false h8
        have i8 : decide ((k : Int) ≤ 8) = false := decide_eq_false (by omega)
        clear h8
        go_wp2_with fail
        go_ret
        exact ⟨retB _, bel_tr HB.out HBr.out⟩
end Go.Proofs.Ytkonoojmhjinpaa
