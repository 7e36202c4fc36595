/- The sanity test. -/
import Derived.Test.YtnpkbjekodjcjaaDoorX
set_option linter.all false
namespace Go.Proofs.YtnpkbjekodjcjaaDoor
open Go.RowKit Go.Fen Hil
set_option linter.unusedVariables false
set_option maxHeartbeats 4000000

theorem s1 (w : World) (hT : Tab w) : Calls Tryd.prog 11 #[.int .i64 2, .int .u32 3, .int .u32 0] w fun e w' => e = .returned (.tuple #[.int .u64 15, .int .i64 0]) ∧ Below w.heap.size w w' := by
  have h := index_any 2 3 0 w hT
  rw [show indexR 2 3 0 = (15, 0) by decide] at h
  exact h
theorem s2 (w : World) (hT : Tab w) : Calls Tryd.prog 11 #[.int .i64 1, .int .u32 0, .int .u32 1] w fun e w' => e = .returned (.tuple #[.int .u64 1, .int .i64 0]) ∧ Below w.heap.size w w' := by
  have h := index_any 1 0 1 w hT
  rw [show indexR 1 0 1 = (1, 0) by decide] at h
  exact h
theorem s3 (w : World) (hT : Tab w) : Calls Tryd.prog 11 #[.int .i64 1, .int .u32 2, .int .u32 0] w fun e w' => e = .returned (.tuple #[.int .u64 0, .int .i64 1]) ∧ Below w.heap.size w w' := by
  have h := index_any 1 2 0 w hT
  rw [show indexR 1 2 0 = (0, 1) by decide] at h
  exact h
theorem s4 (w : World) (hT : Tab w) : Calls Tryd.prog 11 #[.int .i64 17, .int .u32 0, .int .u32 0] w fun e w' => e = .returned (.tuple #[.int .u64 0, .int .i64 1]) ∧ Below w.heap.size w w' := by
  have h := index_any 17 0 0 w hT
  rw [show indexR 17 0 0 = (0, 1) by decide] at h
  exact h
theorem s5 (w : World) (hT : Tab w) : Calls Tryd.prog 13 #[.int .i64 1, .int .u64 2] w fun e w' => e = .returned (.tuple #[.int .u32 1, .int .u32 1, .int .i64 0]) ∧ Below w.heap.size w w' := by
  have h := point_any 1 2 w hT
  rw [show pointR 1 2 = (1, 1, 0) by decide] at h
  exact h
theorem s6 (w : World) (hT : Tab w) : Calls Tryd.prog 13 #[.int .i64 1, .int .u64 4] w fun e w' => e = .returned (.tuple #[.int .u32 0, .int .u32 0, .int .i64 1]) ∧ Below w.heap.size w w' := by
  have h := point_any 1 4 w hT
  rw [show pointR 1 4 = (0, 0, 1) by decide] at h
  exact h
theorem s7 (w : World) (hT : Tab w) : Calls Tryd.prog 22 #[.int .i64 1, .agg #[.int .u32 0, .int .u32 0, .int .u32 1, .int .u32 0]] w fun e w' => ∃ a c, e = .returned (.tuple #[.slice a 2 c, .int .i64 0]) ∧ RgsM w' a [(0, 0), (3, 3)] ∧ Below w.heap.size w w' := by
  have h := cover_any 1 ⟨0, 0, 1, 0⟩ w (by unfold CovOk; decide) hT
  rw [show (1 : Int).toNat = 1 from rfl, exCov] at h
  exact h
theorem s8 (w : World) : Calls Tryd.prog 22 #[.int .i64 1, .agg #[.int .u32 1, .int .u32 0, .int .u32 0, .int .u32 0]] w fun e w' => e = .returned (.tuple #[.slice none 0 0, .int .i64 1]) ∧ Below w.heap.size w w' :=
  cover_bad 1 ⟨1, 0, 0, 0⟩ w (by unfold CovOk; decide)
theorem s9 (a : Option Addr) (c : Nat) (w : World) (hM : RawM w a exR) : Calls Tryd.prog 17 #[.slice a 3 c, .int .i64 3] w fun e w' => ∃ a' c', e = .returned (.slice a' 3 c') ∧ RowsM w' a' (rowsOf exR 3) ∧ Below w.heap.size w w' :=
  rows_any a exR 3 c 3 w rfl (by decide) hM
theorem s10 (a : Option Addr) (c : Nat) (w : World) (hT : Tab w) (hM : RowsM w a (rowsOf exR 3)) : Calls Tryd.prog 18 #[.slice a 3 c, .agg #[.int .i64 1, .int .i64 2], .int .i64 1] w fun e w' => ∃ a c, e = .returned (.tuple #[.slice a 3 c, .int .i64 0]) ∧ IntsM w' a [2, 1, 0] ∧ Below w.heap.size w w' := by
  refine (order_any a (rowsOf exR 3) 3 c 1 1 2 w hT rfl (by decide) hM (by decide) (by decide) (exOk 1 (.inl rfl)) (exOk 2 (.inr rfl)) (fun gd t c bk gk m cm D K w hR hK hn hm hbk hgk hD hI => sort_small gd t 3 c bk gk m cm D K w hR hK hn (by decide) hm hbk hgk hD hI)).mono ?_
  rintro e w' ⟨go, co, D, rfl, hR, hM, hS, hB⟩
  have hl : D.length = 3 := hM.1
  rw [exKeys] at hS
  have e : D = [2, 1, 0] := srt_unique [3, 1, 0] D [2, 1, 0] (srt_pairwise (by rw [hl]; exact hS)) (by unfold lt; decide) (fun x => by rw [mix_mem hM rfl x]; simp only [show List.range 3 = [0, 1, 2] from rfl, List.mem_cons, List.not_mem_nil, or_false]; constructor <;> intro h <;> omega)
  subst e
  refine ⟨_, _, rfl, .inr ⟨go, 0, rfl, hR.lt, fun i hi => ?_⟩, hB⟩
  rw [Nat.zero_add, hR.cell]
  have : i = 0 ∨ i = 1 ∨ i = 2 := by simp at hi; omega
  rcases this with rfl | rfl | rfl <;> rfl
theorem s11 (a b : Option Addr) (c d : Nat) (w : World) (h : RgsM w a [(0, 0), (3, 3)]) (k : RgsM w b [(0, 0), (3, 3)]) : Calls Tryd.prog 24 #[.slice a 2 c, .slice b 2 d] w fun e w' => e = .returned (.bool true) ∧ ∃ q, w' = w.drewN q := by
  have h := sameR_any a b [(0, 0), (3, 3)] [(0, 0), (3, 3)] 2 2 c d w rfl rfl (by decide) h k
  exact h
theorem s12 (a b : Option Addr) (c d : Nat) (w : World) (h : IntsM w a [2, 1, 0]) (k : IntsM w b [2, 1, 0]) : Calls Tryd.prog 20 #[.slice a 3 c, .slice b 3 d] w fun e w' => e = .returned (.bool true) ∧ ∃ q, w' = w.drewN q := by
  have h := sameInts_any a b [2, 1, 0] [2, 1, 0] 3 3 c d w rfl rfl (by decide) h k
  exact h
theorem s13 (w : World) : Calls Tryd.prog 15 #[.int .i64 5, .int .i64 0, .int .i64 9, .int .i64 1] w fun e w' => e = .returned (.int .u32 1) ∧ ∃ q, w' = w.drewN q := by
  have h := scale_small 5 0 9 1 w (by decide) (by decide) (by decide) (by decide) (by decide) (by decide) (by decide) (by decide) (by decide)
  rw [show scl 5 0 9 1 = 1 by decide] at h
  exact h
theorem s14 (w : World) : Calls Tryd.prog 15 #[.int .i64 4, .int .i64 0, .int .i64 9, .int .i64 1] w fun e w' => e = .returned (.int .u32 0) ∧ ∃ q, w' = w.drewN q := by
  have h := scale_small 4 0 9 1 w (by decide) (by decide) (by decide) (by decide) (by decide) (by decide) (by decide) (by decide) (by decide)
  rw [show scl 4 0 9 1 = 0 by decide] at h
  exact h

theorem raw_ex (w : World) : RawM ((((w.alloc (.cells #[.int .i64 8, .int .i64 1] 2)).alloc (.cells #[.int .i64 1, .int .i64 8] 2)).alloc (.cells #[.int .i64 1, .int .i64 1] 2)).alloc (.cells #[.slice (some ⟨w.heap.size, 0, none⟩) 2 2, .slice (some ⟨w.heap.size + 1, 0, none⟩) 2 2, .slice (some ⟨w.heap.size + 1 + 1, 0, none⟩) 2 2] 61)) (some ⟨w.heap.size + 1 + 1 + 1, 0, none⟩) exR ∧
    Below w.heap.size w ((((w.alloc (.cells #[.int .i64 8, .int .i64 1] 2)).alloc (.cells #[.int .i64 1, .int .i64 8] 2)).alloc (.cells #[.int .i64 1, .int .i64 1] 2)).alloc (.cells #[.slice (some ⟨w.heap.size, 0, none⟩) 2 2, .slice (some ⟨w.heap.size + 1, 0, none⟩) 2 2, .slice (some ⟨w.heap.size + 1 + 1, 0, none⟩) 2 2] 61)) := by
  have r0 := (((Row.new w 2 #[Value.int .i64 8, Value.int .i64 1]).alloc (.cells #[.int .i64 1, .int .i64 8] 2)).alloc (.cells #[.int .i64 1, .int .i64 1] 2)).alloc (.cells #[.slice (some ⟨w.heap.size, 0, none⟩) 2 2, .slice (some ⟨w.heap.size + 1, 0, none⟩) 2 2, .slice (some ⟨w.heap.size + 1 + 1, 0, none⟩) 2 2] 61)
  have r1 := ((Row.new' (w := w.alloc (.cells #[.int .i64 8, .int .i64 1] 2)) (g := w.heap.size + 1) 2 #[Value.int .i64 1, Value.int .i64 8] (by simp)).alloc (.cells #[.int .i64 1, .int .i64 1] 2)).alloc (.cells #[.slice (some ⟨w.heap.size, 0, none⟩) 2 2, .slice (some ⟨w.heap.size + 1, 0, none⟩) 2 2, .slice (some ⟨w.heap.size + 1 + 1, 0, none⟩) 2 2] 61)
  have r2 := (Row.new' (w := (w.alloc (.cells #[.int .i64 8, .int .i64 1] 2)).alloc (.cells #[.int .i64 1, .int .i64 8] 2)) (g := w.heap.size + 1 + 1) 2 #[Value.int .i64 1, Value.int .i64 1] (by simp)).alloc (.cells #[.slice (some ⟨w.heap.size, 0, none⟩) 2 2, .slice (some ⟨w.heap.size + 1, 0, none⟩) 2 2, .slice (some ⟨w.heap.size + 1 + 1, 0, none⟩) 2 2] 61)
  have r3 := Row.new' (w := ((w.alloc (.cells #[.int .i64 8, .int .i64 1] 2)).alloc (.cells #[.int .i64 1, .int .i64 8] 2)).alloc (.cells #[.int .i64 1, .int .i64 1] 2)) (g := w.heap.size + 1 + 1 + 1) 61 #[.slice (some ⟨w.heap.size, 0, none⟩) 2 2, .slice (some ⟨w.heap.size + 1, 0, none⟩) 2 2, .slice (some ⟨w.heap.size + 1 + 1, 0, none⟩) 2 2] (by simp)
  refine ⟨.inr ⟨_, 0, rfl, r3.lt, fun i hi => ?_⟩, (((Below.refl _ _).alloc (Nat.le_refl _) _).alloc (by simp) _).alloc (by simp <;> omega) _ |>.alloc (by simp <;> omega) _⟩
  have : i = 0 ∨ i = 1 ∨ i = 2 := by simp [exR] at hi; omega
  rcases this with rfl | rfl | rfl
  · refine ⟨_, _, r3.cell 0, .inr ⟨_, 0, rfl, r0.lt, fun j hj => ?_⟩⟩
    have : j = 0 ∨ j = 1 := by simp [exR] at hj; omega
    rcases this with rfl | rfl
    · exact r0.cell 0
    · exact r0.cell 1
  · refine ⟨_, _, r3.cell 1, .inr ⟨_, 0, rfl, r1.lt, fun j hj => ?_⟩⟩
    have : j = 0 ∨ j = 1 := by simp [exR] at hj; omega
    rcases this with rfl | rfl
    · exact r1.cell 0
    · exact r1.cell 1
  · refine ⟨_, _, r3.cell 2, .inr ⟨_, 0, rfl, r2.lt, fun j hj => ?_⟩⟩
    have : j = 0 ∨ j = 1 := by simp [exR] at hj; omega
    rcases this with rfl | rfl
    · exact r2.cell 0
    · exact r2.cell 1
theorem s15 (w : World) : Calls Tryd.prog 15 #[.int .i64 (-1), .int .i64 0, .int .i64 9, .int .i64 4] w fun e w' => e = .returned (.int .u32 0) ∧ w' = w := by
  have h := scale_out (-1) 0 9 4 w (by decide)
  exact h
theorem s16 (w : World) : Calls Tryd.prog 15 #[.int .i64 99, .int .i64 0, .int .i64 9, .int .i64 4] w fun e w' => e = .returned (.int .u32 15) ∧ w' = w := by
  have h := scale_out 99 0 9 4 w (by decide)
  exact h

theorem rgs_lit (w : World) : RgsM (w.alloc (.cells #[.int .u64 0, .int .u64 0, .int .u64 3, .int .u64 3] 58)) (some ⟨w.heap.size, 0, none⟩) [(0, 0), (3, 3)] := by
  have r := Row.new w 58 #[Value.int .u64 0, .int .u64 0, .int .u64 3, .int .u64 3]
  refine .inr ⟨_, 0, rfl, r.lt, fun i hi j x hx => ?_⟩
  have : i = 0 ∨ i = 1 := by simp at hi; omega
  have hj : j = 0 ∨ j = 1 := by
    have := (List.getElem?_eq_some_iff.1 hx).1
    simp [rcell] at this
    omega
  rcases this with rfl | rfl <;> rcases hj with rfl | rfl
  · exact (r.cell 0).trans hx
  · exact (r.cell 1).trans hx
  · exact (r.cell 2).trans hx
  · exact (r.cell 3).trans hx
theorem ints_lit (w : World) : IntsM (w.alloc (.cells #[.int .i64 2, .int .i64 1, .int .i64 0] 3)) (some ⟨w.heap.size, 0, none⟩) [2, 1, 0] := by
  have r := Row.new w 3 #[Value.int .i64 2, .int .i64 1, .int .i64 0]
  refine .inr ⟨_, 0, rfl, r.lt, fun i hi => ?_⟩
  have : i = 0 ∨ i = 1 ∨ i = 2 := by simp at hi; omega
  rcases this with rfl | rfl | rfl
  · exact r.cell 0
  · exact r.cell 1
  · exact r.cell 2

set_option maxRecDepth 20000 in
theorem sanity_any (w : World) (hT : Tab w) : Calls Tryd.prog 10 #[] w fun e w' => e = .returned (.bool true) ∧ Below w.heap.size w w' := by
  have HT := Lib.hid hT
  clear hT
  have B0 := Lib.hid (Below.refl w.heap.size w)
  go_enter Tryd.func10, Tryd.ntmps10
  go_wp2_with fail
  refine (s1 _ (HT.out.below B0.out (Nat.le_refl _))).mono ?_
  rintro e w1 ⟨rfl, b⟩
  have B1 := Lib.hid (bel_tr B0.out b)
  clear b
  go_wp2_with fail
  refine (s2 _ (HT.out.below B1.out (Nat.le_refl _))).mono ?_
  rintro e w2 ⟨rfl, b⟩
  have B2 := Lib.hid (bel_tr B1.out b)
  clear b
  go_wp2_with fail
  refine (s3 _ (HT.out.below B2.out (Nat.le_refl _))).mono ?_
  rintro e w3 ⟨rfl, b⟩
  have B3 := Lib.hid (bel_tr B2.out b)
  clear b
  go_wp2_with fail
  refine (s4 _ (HT.out.below B3.out (Nat.le_refl _))).mono ?_
  rintro e w4 ⟨rfl, b⟩
  have B4 := Lib.hid (bel_tr B3.out b)
  clear b
  go_wp2_with fail
  refine (s5 _ (HT.out.below B4.out (Nat.le_refl _))).mono ?_
  rintro e w5 ⟨rfl, b⟩
  have B5 := Lib.hid (bel_tr B4.out b)
  clear b
  go_wp2_with fail
  refine (s6 _ (HT.out.below B5.out (Nat.le_refl _))).mono ?_
  rintro e w6 ⟨rfl, b⟩
  have B6 := Lib.hid (bel_tr B5.out b)
  clear b
  go_wp2_with fail
  refine (s7 _ (HT.out.below B6.out (Nat.le_refl _))).mono ?_
  rintro e w7 ⟨a7, c7, rfl, m7, b⟩
  have B7 := Lib.hid (bel_tr B6.out b)
  have M7 := Lib.hid m7
  clear b m7
  go_wp2_with fail
  refine (s8 _).mono ?_
  rintro e w8 ⟨rfl, b⟩
  have B8 := Lib.hid (bel_tr B7.out b)
  have M8 := Lib.hid (M7.out.below b (Nat.le_refl _))
  clear b
  go_wp2_with fail
  refine (s9 _ _ _ (raw_ex w8).1).mono ?_
  rintro e w9 ⟨a9, c9, rfl, m9, b⟩
  have B9 := Lib.hid (B8.out.trans (((raw_ex w8).2.mono B8.out.size).trans (b.mono (Nat.le_trans B8.out.size (raw_ex w8).2.size))))
  have N9 := Lib.hid (M8.out.below ((raw_ex w8).2.trans (b.mono (raw_ex w8).2.size)) (Nat.le_refl _))
  have M9 := Lib.hid m9
  clear b m9
  go_wp2_with fail
  refine (s10 _ _ _ (HT.out.below B9.out (Nat.le_refl _)) M9.out).mono ?_
  rintro e w10 ⟨a10, c10, rfl, m10, b⟩
  have B10 := Lib.hid (bel_tr B9.out b)
  have N10 := Lib.hid (N9.out.below b (Nat.le_refl _))
  have M10 := Lib.hid m10
  clear b m10
  go_wp2_with fail
  refine (s11 _ _ _ _ _ (N10.out.below ((Below.refl _ _).alloc (Nat.le_refl _) _) (Nat.le_refl _)) (rgs_lit w10)).mono ?_
  rintro e w11 ⟨rfl, q, rfl⟩
  have B11 := Lib.hid (below_drewN (bel_tr B10.out ((Below.refl _ _).alloc (Nat.le_refl _) (.cells #[.int .u64 0, .int .u64 0, .int .u64 3, .int .u64 3] 58))) q)
  have M11 := Lib.hid (M10.out.below (below_drewN ((Below.refl _ _).alloc (Nat.le_refl _) (.cells #[.int .u64 0, .int .u64 0, .int .u64 3, .int .u64 3] 58)) q) (Nat.le_refl _))
  obtain ⟨w11, hw11⟩ : ∃ W, W = (w10.alloc (.cells #[.int .u64 0, .int .u64 0, .int .u64 3, .int .u64 3] 58)).drewN q := ⟨_, rfl⟩
  rw [← hw11] at B11 M11 ⊢
  clear hw11
  go_wp2_with fail
  refine (s13 _).mono ?_
  rintro e w12 ⟨rfl, q2, rfl⟩
  go_wp2_with fail
  refine (s14 _).mono ?_
  rintro e w12 ⟨rfl, q3, rfl⟩
  go_wp2_with fail
  refine (s15 _).mono ?_
  rintro e w12 ⟨rfl, rfl⟩
  go_wp2_with fail
  refine (s16 _).mono ?_
  rintro e w12 ⟨rfl, rfl⟩
  have B12 := Lib.hid (below_drewN B11.out (q2 + q3))
  have M12 := Lib.hid (M11.out.below (below_drewN (Below.refl _ _) (q2 + q3)) (Nat.le_refl _))
  obtain ⟨w12, hw12⟩ : ∃ W, W = w11.drewN (q2 + q3) := ⟨_, rfl⟩
  rw [← hw12] at B12 M12 ⊢
  clear hw12
  go_wp2_with fail
  refine (s12 _ _ _ _ _ (M12.out.below ((Below.refl _ _).alloc (Nat.le_refl _) _) (Nat.le_refl _)) (ints_lit w12)).mono ?_
  rintro e w13 ⟨rfl, q4, rfl⟩
  have B13 := Lib.hid (below_drewN (bel_tr B12.out ((Below.refl _ _).alloc (Nat.le_refl _) (.cells #[.int .i64 2, .int .i64 1, .int .i64 0] 3))) q4)
  go_wp2_with fail
  go_ret
  exact ⟨rfl, B13.out⟩
end Go.Proofs.YtnpkbjekodjcjaaDoor
