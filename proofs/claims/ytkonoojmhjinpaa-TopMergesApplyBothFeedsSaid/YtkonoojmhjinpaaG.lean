/- Contracts: add. -/
import Derived.Test.YtkonoojmhjinpaaF
set_option linter.all false
namespace Go.Proofs.Ytkonoojmhjinpaa
open Go.RowKit Go.Fen
set_option linter.unusedVariables false
set_option maxHeartbeats 4000000

/-- a change of a schema -/
structure Ch where
  k : Int
  id : Int
  wi : Int
  nm : ByteArray
  ot : ByteArray
  ty : Int
  pa : Int
  sp : ByteArray
  hn : nm.size ≤ 9223372036854775807
  ho : ot.size ≤ 9223372036854775807
def chc (c : Ch) : List Value := [.int .i64 c.k, .int .i64 c.id, .int .i64 c.wi, .string c.nm, .string c.ot, .int .i64 c.ty, .int .i64 c.pa, .string c.sp]
theorem length_chc (c : Ch) : (chc c).length = 8 := rfl
theorem one_chs (c : Ch) : ∀ y ∈ chc c, y.oneCell' = true := by simp [chc, Value.oneCell']
theorem one_ch (c : Ch) : (chc c).toArray.all (·.oneCell') = true := by simp [chc, Value.oneCell']
theorem Try.z76 : (Try.prog.info? 76).bind (·.zero) = some (.agg #[.int .i64 0, .int .i64 0, .int .i64 0, .string ⟨#[]⟩, .string ⟨#[]⟩, .int .i64 0, .int .i64 0, .string ⟨#[]⟩]) := by kernel_rfl
theorem Try.n76 : (Try.prog.info? 76).map (·.size) = some 8 := by kernel_rfl
/-- a schema and an error are returned -/
def RetSE (m : Nat) (e : Ending) (w : World) : Prop := ∃ v x, e = .returned (.tuple #[v, .int .i64 x]) ∧ Sch m w v
theorem sch_nil (m : Nat) (w : World) : Sch m w (.agg #[.slice none 0 0, .int .i64 0]) := ⟨none, [], 0, 0, rfl, Nat.zero_le _, .inl rfl⟩
theorem Sch.le {m m' : Nat} {w : World} {v : Value} (h : Sch m w v) (hm : m ≤ m') : Sch m' w v := by
  obtain ⟨a, F, c, nx, e, h1, h4⟩ := h
  exact ⟨a, F, c, nx, e, Nat.le_trans h1 hm, h4⟩
/-- a block of fields is none of another type -/
theorem Lf.but {w w' : World} {a : Option Addr} {F : List Fl} {g : Nat} {t : TypeId} {z : Array Value} (h : Lf w a F) (hr : Row w g t z) (ht : t ≠ 126) (hs : w.heap.size ≤ w'.heap.size) (hw : ∀ k, k < w.heap.size → k ≠ g → w'.heap[k]? = w.heap[k]?) : Lf w' a F := by
  rcases h with h | ⟨g', o, ea, hg, hc, cs, fr, htag⟩
  · exact .inl h
  · have hne : g' ≠ g := by
      intro e
      subst e
      have h2 : w.heap[g']? = Option.some (Obj.cells z t) := hr
      rw [h2] at htag
      injection htag with htag
      injection htag with _ h3 _
      exact ht h3
    exact .inr ⟨g', o, ea, Nat.lt_of_lt_of_le hg hs, fun i f hf j v hv => (World.cell?_of_block (hw _ hg hne)).trans (hc i f hf j v hv), cs, fr, (hw _ hg hne).trans htag⟩
theorem ls_sch_put {w : World} {a : Option Addr} {F : List Fl} {g : Nat} {p : Option Addr} {n c : Nat} {x : Int} (h : Lf w a F) (hr : Row w g 31 #[.slice p n c, .int .i64 x]) (cs : Array Value) : Lf (w.setRow g cs) a F :=
  h.but hr (by decide) (by simp) fun k _ hk => setRow_other _ _ _ _ hk
theorem Sch.put {m : Nat} {w : World} {v : Value} {g : Nat} {p : Option Addr} {n c : Nat} {x : Int} (h : Sch m w v) (hr : Row w g 31 #[.slice p n c, .int .i64 x]) (cs : Array Value) : Sch m (w.setRow g cs) v := by
  obtain ⟨a, F, c, nx, e, h1, h4⟩ := h
  exact ⟨a, F, c, nx, e, h1, ls_sch_put h4 hr cs⟩

set_option maxRecDepth 20000 in
theorem add_any (m : Nat) (v : Value) (ch : Ch) (w : World) (hm : m ≤ 999) (hS : Sch m w v) : Calls Try.prog 40 #[v, .agg (chc ch).toArray] w fun e w' => RetSE (m + 2) e w' ∧ Below w.heap.size w w' := by
  have HS := Lib.hid hS
  obtain ⟨a, F, c, nx, rfl, _⟩ := hS
  obtain ⟨n, hn⟩ : ∃ n, n = F.length := ⟨_, rfl⟩
  rw [← hn] at HS ⊢
  obtain ⟨g, eg⟩ : ∃ g, g = w.heap.size := ⟨_, rfl⟩
  obtain ⟨W0, hW0⟩ : ∃ W, W = w.alloc (.cells #[.slice a n c, .int .i64 nx] 31) := ⟨_, rfl⟩
  obtain ⟨W1, hW1⟩ : ∃ W, W = W0.alloc (.cells (chc ch).toArray 76) := ⟨_, rfl⟩
  obtain ⟨W2, hW2⟩ : ∃ W, W = W1.alloc (.cells #[.slice none 0 0, .int .i64 0] 31) := ⟨_, rfl⟩
  have z0 : W0.heap.size = g + 1 := by rw [hW0, eg]; simp
  have z1 : W1.heap.size = g + 1 + 1 := by rw [hW1, World.size_alloc, z0]
  have z2 : W2.heap.size = g + 1 + 1 + 1 := by rw [hW2, World.size_alloc, z1]
  have hb2 : Below w.heap.size w W2 := by rw [hW2, hW1, hW0]; exact (((Below.refl _ _).alloc (Nat.le_refl _) _).alloc (by simp) _).alloc (by simp <;> omega) _
  have R0 : Row W2 g 31 #[.slice a n c, .int .i64 nx] := by rw [hW2, hW1, hW0, eg]; exact ((Row.new w 31 _).alloc _).alloc _
  have R1 : Row W2 (g + 1) 76 (chc ch).toArray := by rw [hW2, hW1]; exact ((Row.new' 76 _ z0.symm).alloc _)
  have R2 : Row W2 (g + 1 + 1) 31 #[.slice none 0 0, .int .i64 0] := by rw [hW2]; exact (Row.new' 31 _ z1.symm)
  have HW0 := Lib.hid hW0
  have HW1 := Lib.hid hW1
  have HW2 := Lib.hid hW2
  have EG := Lib.hid eg
  have Z0 := Lib.hid z0
  have Z1 := Lib.hid z1
  have Z2 := Lib.hid z2
  have HR0 := Lib.hid (fun X (h : Below W2.heap.size W2 X) => R0.below h R0.lt)
  have HR1 := Lib.hid (fun X (h : Below W2.heap.size W2 X) => R1.below h R1.lt)
  have HR2 := Lib.hid (fun X (h : Below W2.heap.size W2 X) => R2.below h R2.lt)
  have HSX := Lib.hid (fun X (h : Below W2.heap.size W2 X) => (HS.out.bel hb2).bel h)
  have HEND := Lib.hid (fun X cs (h : Below W2.heap.size W2 X) => below_putRow (bel_tr hb2 h) (show w.heap.size ≤ g + 1 + 1 by omega) cs)
  have HB := Lib.hid (Below.refl W2.heap.size W2)
  clear hW0 hW1 hW2 eg z0 z1 z2 hb2 R0 R1 R2 hn
  have q5 : W2.cell? ⟨g + 1, 5, none⟩ = some (.int .i64 ch.ty) := (HR1.out _ HB.out).cell 5
  go_enter Try.func40, Try.ntmps40
  go_upto_region 1 with (first | ((with_reducible show wpList _ _ _ (Oper.mk _ (Op.box _ _) _ _ _ _ :: _) _ _); (first | (refine wpList_box_row rfl 31 (.tmp 0) rfl _ rfl g EG.out ?_; refine wpList_atE HW0.out ?_) | (refine wpList_box_row rfl 76 (.tmp 1) rfl _ rfl (g + 1) Z0.out.symm ?_; refine wpList_atE HW1.out ?_))) | ((with_reducible show wpList _ _ _ (Oper.mk _ (Op.alloc _) _ _ _ _ :: _) _ _); (refine wpList_alloc_row rfl 31 rfl #[.slice none 0 0, .int .i64 0] Try.z31 (g + 1 + 1) Z1.out.symm ?_; refine wpList_atE HW2.out ?_)))
  go_cut [14] from 7 to 14 (fun s wx => ∃ b : Bool, s = .bool b ∧ W2 = wx)
  case first =>
    go_wp2_with fail
    all_goals first | exact (undef_no (by assumption)).elim | (go_meet; exact ⟨_, rfl, rfl⟩)
  case rest =>
    obtain ⟨b, rfl, rfl⟩ := hcut
    cases b with
    | true =>
      go_wp2_with (first | ((with_reducible show wpList _ _ _ (Oper.mk _ (Op.store _ _ _) _ _ _ _ :: _) _ _); refine wpList_put_arr rfl 31 (.tmp 4) (.tmp 15) rfl rfl (g + 1 + 1) 31 _ #[.slice none 0 0, .int .i64 0] rfl rfl (HR2.out _ HB.out) Try.n31 rfl (one_sch _ _ _ _) ?_))
      try simp only [Exit.inBlock, Exit.then]
      refine bodyPost_ret (results_cell_slot (p := 4) (q := 5) (ty := 31) rfl _ _ (g + 1 + 1) 31 #[.slice none 0 0, .int .i64 0] (0, 0) _ rfl (Row.setRow (HR2.out _ HB.out) _) Try.underlying31 rfl Try.n31) rfl ?_
      exact ⟨⟨_, _, rfl, sch_nil _ _⟩, HEND.out _ _ HB.out⟩
    | false =>
      clear q5
      have q6 : W2.cell? ⟨g + 1, 6, none⟩ = some (.int .i64 ch.pa) := (HR1.out _ HB.out).cell 6
      go_wp2_with (first | ((with_reducible show wpList _ _ _ (Oper.mk _ (Op.load _ _) _ _ _ _ :: _) _ _); refine wpList_load_row rfl 31 (.tmp 2) rfl g rfl 31 #[.slice a n c, .int .i64 nx] (0, 0) _ (HR0.out _ HB.out) Try.underlying31 rfl Try.n31 ?_))
      refine (group_any m _ ch.pa _ (by omega) (HSX.out _ HB.out)).mono ?_
      rintro e w1 ⟨⟨b, rfl⟩, b1⟩
      have HB1 := Lib.hid (bel_tr HB.out b1)
      clear b1 q6
      cases b with
      | false =>
        go_wp2_with (first | ((with_reducible show wpList _ _ _ (Oper.mk _ (Op.store _ _ _) _ _ _ _ :: _) _ _); refine wpList_put_arr rfl 31 (.tmp 4) (.tmp 28) rfl rfl (g + 1 + 1) 31 _ #[.slice none 0 0, .int .i64 0] rfl rfl (HR2.out _ HB1.out) Try.n31 rfl (one_sch _ _ _ _) ?_))
        try simp only [Exit.inBlock, Exit.then]
        refine bodyPost_ret (results_cell_slot (p := 4) (q := 5) (ty := 31) rfl _ _ (g + 1 + 1) 31 #[.slice none 0 0, .int .i64 0] (0, 0) _ rfl (Row.setRow (HR2.out _ HB1.out) _) Try.underlying31 rfl Try.n31) rfl ?_
        exact ⟨⟨_, _, rfl, sch_nil _ _⟩, HEND.out _ _ HB1.out⟩
      | true =>
        have q6 : w1.cell? ⟨g + 1, 6, none⟩ = some (.int .i64 ch.pa) := (HR1.out _ HB1.out).cell 6
        have r0 : w1.cell? ⟨g, 0, none⟩ = some (.slice a n c) := (HR0.out _ HB1.out).cell 0
        have r1 : w1.cell? ⟨g, 1, none⟩ = some (.int .i64 nx) := (HR0.out _ HB1.out).cell 1
        go_wp2_with (first | ((with_reducible show wpList _ _ _ (Oper.mk _ (Op.load _ _) _ _ _ _ :: _) _ _); refine wpList_load_row rfl 31 (.tmp 2) rfl g rfl 31 #[.slice a n c, .int .i64 nx] (0, 0) _ (HR0.out _ HB1.out) Try.underlying31 rfl Try.n31 ?_))
        refine (depth_any m _ ch.pa _ (by omega) (HSX.out _ HB1.out)).mono ?_
        rintro e w2 ⟨⟨x, rfl⟩, b2⟩
        have HB2 := Lib.hid (bel_tr HB1.out b2)
        clear b2 q6 r0 r1
        by_cases hx : 8 ≤ x
        · have d : decide (8 ≤ x) = true := decide_eq_true hx
          go_wp2_with (first | ((with_reducible show wpList _ _ _ (Oper.mk _ (Op.store _ _ _) _ _ _ _ :: _) _ _); refine wpList_put_arr rfl 31 (.tmp 4) (.tmp 28) rfl rfl (g + 1 + 1) 31 _ #[.slice none 0 0, .int .i64 0] rfl rfl (HR2.out _ HB2.out) Try.n31 rfl (one_sch _ _ _ _) ?_))
          try simp only [Exit.inBlock, Exit.then]
          refine bodyPost_ret (results_cell_slot (p := 4) (q := 5) (ty := 31) rfl _ _ (g + 1 + 1) 31 #[.slice none 0 0, .int .i64 0] (0, 0) _ rfl (Row.setRow (HR2.out _ HB2.out) _) Try.underlying31 rfl Try.n31) rfl ?_
          exact ⟨⟨_, _, rfl, sch_nil _ _⟩, HEND.out _ _ HB2.out⟩
        · have d : decide (8 ≤ x) = false := decide_eq_false hx
          obtain ⟨W3, hW3⟩ : ∃ W, W = w2.alloc (.cells (flc (Fl.mk 0 ch.nm ch.hn ch.ty ch.pa)).toArray 126) := ⟨_, rfl⟩
          obtain ⟨g3, hg3⟩ : ∃ x, x = w2.heap.size := ⟨_, rfl⟩
          have R3 : Row W3 g3 126 (flc (Fl.mk 0 ch.nm ch.hn ch.ty ch.pa)).toArray := by rw [hW3]; exact Row.new' 126 _ hg3
          have b3 : Below w2.heap.size w2 W3 := by rw [hW3]; exact (Below.refl _ _).alloc (Nat.le_refl _) _
          have HB3 := Lib.hid (bel_tr HB2.out b3)
          have q3 : w2.cell? ⟨g + 1, 3, none⟩ = some (.string ch.nm) := (HR1.out _ HB2.out).cell 3
          have q5 : w2.cell? ⟨g + 1, 5, none⟩ = some (.int .i64 ch.ty) := (HR1.out _ HB2.out).cell 5
          have q6 : w2.cell? ⟨g + 1, 6, none⟩ = some (.int .i64 ch.pa) := (HR1.out _ HB2.out).cell 6
          have HR3 := Lib.hid (fun X (h : Below W3.heap.size W3 X) => R3.below h R3.lt)
          have HB33 := Lib.hid (Below.refl W3.heap.size W3)
          have HW3 := Lib.hid hW3
          have HG3 := Lib.hid hg3
          clear hW3 hg3 R3 b3
          go_wp2_with (first | ((with_reducible show wpList _ _ _ (Oper.mk _ (Op.alloc _) _ _ _ _ :: _) _ _); (refine wpList_new_row rfl rfl 126 6 (.tmp 35) rfl rfl rfl rfl g3 HG3.out (flc (Fl.mk 0 ch.nm ch.hn ch.ty ch.pa)).toArray rfl rfl _ Try.z126 Try.n126 rfl (one_fl _) ?_; refine wpList_atE HW3.out ?_)) | ((with_reducible show wpList _ _ _ (Oper.mk _ (Op.load _ _) _ _ _ _ :: _) _ _); first | (refine wpList_load_row rfl 31 (.tmp 2) rfl g rfl 31 #[.slice a n c, .int .i64 nx] (0, 0) _ (HR0.out _ HB3.out) Try.underlying31 rfl Try.n31 ?_) | (refine wpList_load_row rfl 126 (.tmp 6) rfl g3 rfl 126 (flc (Fl.mk 0 ch.nm ch.hn ch.ty ch.pa)).toArray (0, 0) _ (HR3.out _ HB33.out) Try.underlying126 rfl Try.n126 ?_)))
          refine (taken_any m _ (Fl.mk 0 ch.nm ch.hn ch.ty ch.pa) 0 0 _ (by omega) (HSX.out _ HB3.out)).mono ?_
          rintro e w4 ⟨⟨b, rfl⟩, b4⟩
          have HB4 := Lib.hid (bel_tr HB3.out b4)
          have HB44 := Lib.hid b4
          clear b4 q3 q5 q6
          cases b with
          | true =>
            go_wp2_with (first | ((with_reducible show wpList _ _ _ (Oper.mk _ (Op.store _ _ _) _ _ _ _ :: _) _ _); refine wpList_put_arr rfl 31 (.tmp 4) (.tmp 40) rfl rfl (g + 1 + 1) 31 _ #[.slice none 0 0, .int .i64 0] rfl rfl (HR2.out _ HB4.out) Try.n31 rfl (one_sch _ _ _ _) ?_))
            try simp only [Exit.inBlock, Exit.then]
            refine bodyPost_ret (results_cell_slot (p := 4) (q := 5) (ty := 31) rfl _ _ (g + 1 + 1) 31 #[.slice none 0 0, .int .i64 0] (0, 0) _ rfl (Row.setRow (HR2.out _ HB4.out) _) Try.underlying31 rfl Try.n31) rfl ?_
            exact ⟨⟨_, _, rfl, sch_nil _ _⟩, HEND.out _ _ HB4.out⟩
          | false =>
            have r0 : w4.cell? ⟨g, 0, none⟩ = some (.slice a n c) := (HR0.out _ HB4.out).cell 0
            have r1 : w4.cell? ⟨g, 1, none⟩ = some (.int .i64 nx) := (HR0.out _ HB4.out).cell 1
            go_upto_region 8 with (first | ((with_reducible show wpList _ _ _ (Oper.mk _ (Op.store _ _ _) _ _ _ _ :: _) _ _); refine wpList_put_arr rfl 31 (.tmp 4) (.tmp 40) rfl rfl (g + 1 + 1) 31 _ #[.slice none 0 0, .int .i64 0] rfl rfl (HR2.out _ HB4.out) Try.n31 rfl (one_sch _ _ _ _) ?_))
            go_cut [49] from 41 to 49 (fun s wx => ∃ b : Bool, s = .bool b ∧ w4 = wx)
            case first =>
              go_wp2_with fail
              all_goals first | exact (undef_no (by assumption)).elim | (go_meet; exact ⟨_, rfl, rfl⟩)
            case rest =>
              obtain ⟨b, rfl, rfl⟩ := hcut
              cases b with
              | true =>
                go_wp2_with (first | ((with_reducible show wpList _ _ _ (Oper.mk _ (Op.store _ _ _) _ _ _ _ :: _) _ _); refine wpList_put_arr rfl 31 (.tmp 4) (.tmp 50) rfl rfl (g + 1 + 1) 31 _ #[.slice none 0 0, .int .i64 0] rfl rfl (HR2.out _ HB4.out) Try.n31 rfl (one_sch _ _ _ _) ?_))
                try simp only [Exit.inBlock, Exit.then]
                refine bodyPost_ret (results_cell_slot (p := 4) (q := 5) (ty := 31) rfl _ _ (g + 1 + 1) 31 #[.slice none 0 0, .int .i64 0] (0, 0) _ rfl (Row.setRow (HR2.out _ HB4.out) _) Try.underlying31 rfl Try.n31) rfl ?_
                exact ⟨⟨_, _, rfl, sch_nil _ _⟩, HEND.out _ _ HB4.out⟩
              | false =>
                go_wp2_with (first | ((with_reducible show wpList _ _ _ (Oper.mk _ (Op.load _ _) _ _ _ _ :: _) _ _); first | (refine wpList_load_row rfl 31 (.tmp 2) rfl g rfl 31 #[.slice a n c, .int .i64 nx] (0, 0) _ (HR0.out _ HB4.out) Try.underlying31 rfl Try.n31 ?_) | (refine wpList_load_row rfl 126 (.tmp 6) rfl g3 rfl 126 (flc (Fl.mk 0 ch.nm ch.hn ch.ty ch.pa)).toArray (0, 0) _ (HR3.out _ HB44.out) Try.underlying126 rfl Try.n126 ?_)))
                refine (plus_any m _ (Fl.mk 0 ch.nm ch.hn ch.ty ch.pa) _ (by omega) (HSX.out _ HB4.out)).mono ?_
                rintro e w5 ⟨⟨v5, rfl, s5⟩, b5⟩
                have HB5 := Lib.hid (bel_tr HB4.out b5)
                have HS5 := Lib.hid s5
                obtain ⟨a5, F5, c5, nx5, rfl, _⟩ := s5
                clear b5
                go_wp2_with (first | ((with_reducible show wpList _ _ _ (Oper.mk _ (Op.store _ _ _) _ _ _ _ :: _) _ _); refine wpList_put_arr rfl 31 (.tmp 4) (.tmp 53) rfl rfl (g + 1 + 1) 31 _ #[.slice a5 F5.length c5, .int .i64 nx5] rfl rfl (HR2.out _ HB5.out) Try.n31 rfl (one_sch _ _ _ _) ?_))
                try simp only [Exit.inBlock, Exit.then]
                refine bodyPost_ret (results_cell_slot (p := 4) (q := 5) (ty := 31) rfl _ _ (g + 1 + 1) 31 #[.slice a5 F5.length c5, .int .i64 nx5] (0, 0) _ rfl (Row.setRow (HR2.out _ HB5.out) _) Try.underlying31 rfl Try.n31) rfl ?_
                exact ⟨⟨_, _, rfl, (HS5.out.put (HR2.out _ HB5.out) _).le (by omega)⟩, HEND.out _ _ HB5.out⟩
end Go.Proofs.Ytkonoojmhjinpaa
