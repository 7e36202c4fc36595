/- The walks of laws 4 and 5: the two maps are inverse; consecutive points are neighbours. -/
import Derived.Test.YtnpkbjekodjcjaaDoorPh
set_option linter.all false
namespace Go.Proofs.YtnpkbjekodjcjaaDoor
open Go.RowKit Go.Fen Hil
set_option linter.unusedVariables false
set_option maxHeartbeats 4000000

/-- Index at a point of the square -/
theorem index_in (k x y : Nat) (w : World) (hT : Tab w) (k1 : 1 ≤ k) (k2 : k ≤ 16) (hx : x < 2 ^ k) (hy : y < 2 ^ k) :
    Calls Tryd.prog 11 #[.int .i64 k, .int .u32 x, .int .u32 y] w fun e w' => e = .returned (.tuple #[.int .u64 (idx k x y), .int .i64 0]) ∧ Below w.heap.size w w' := by
  have h := index_any k x y w hT
  rw [indexR, if_neg (by rw [Int.toNat_natCast]; omega), Int.toNat_natCast] at h
  exact h
theorem point_in (k i : Nat) (w : World) (hT : Tab w) (k1 : 1 ≤ k) (k2 : k ≤ 16) (hi : i < 4 ^ k) :
    Calls Tryd.prog 13 #[.int .i64 k, .int .u64 i] w fun e w' => e = .returned (.tuple #[.int .u32 (pnt k i).1, .int .u32 (pnt k i).2, .int .i64 0]) ∧ Below w.heap.size w w' := by
  have h := point_any k i w hT
  rw [pointR, if_neg (by rw [Int.toNat_natCast]; omega), Int.toNat_natCast] at h
  exact h

theorem Tab.drewN {w : World} (h : Tab w) (n : Nat) : Tab (w.drewN n) := h

theorem bijective_walk (o a b i : Nat) (w : World) (hT : Tab w) (ho : o < 256) (ha : a < 4294967296) (hb : b < 4294967296) (hi : i < 18446744073709551616) :
    Calls Tryd.prog 4 #[.int .u8 o, .agg #[.int .u32 a, .int .u32 b], .int .u64 i] w fun e w' => e = .returned (.bool true) ∧ Below w.heap.size w w' := by
  obtain ⟨m, hm⟩ : ∃ m, m = o % 16 := ⟨_, rfl⟩
  obtain ⟨k, hk⟩ : ∃ k, k = 1 + m := ⟨_, rfl⟩
  have m1 : (o : Int) % 16 = (m : Int) := by omega
  have m2 : 1 + (m : Int) = (k : Int) := by omega
  have k1 : 1 ≤ k := by omega
  have k2 : k ≤ 16 := by omega
  obtain ⟨s, hs⟩ : ∃ s, s = 2 ^ k := ⟨_, rfl⟩
  obtain ⟨sq, hsq⟩ : ∃ s, s = 4 ^ k := ⟨_, rfl⟩
  have s0 : 0 < s := by rw [hs]; exact two_pos k
  have s1 : s ≤ 65536 := by rw [hs]; exact pow_le16 k k2
  have q0 : 0 < sq := by rw [hsq]; exact four_pos k
  have q1 : sq ≤ 4294967296 := by rw [hsq]; exact four_le16 k k2
  have t1 : (2 : Int) ^ k = (s : Int) := by rw [hs]; exact int_two_pow k
  have t2 : (2 : Int) ^ (2 * k) = (sq : Int) := by rw [hsq]; exact int_four_pow k
  obtain ⟨x, hx⟩ : ∃ x, x = a % s := ⟨_, rfl⟩
  obtain ⟨y, hy⟩ : ∃ y, y = b % s := ⟨_, rfl⟩
  obtain ⟨j, hj⟩ : ∃ j, j = i % sq := ⟨_, rfl⟩
  have x1 : (a : Int) % (s : Int) = (x : Int) := by rw [hx]; simp
  have y1 : (b : Int) % (s : Int) = (y : Int) := by rw [hy]; simp
  have j1 : (i : Int) % (sq : Int) = (j : Int) := by rw [hj]; simp
  have xs : x < s := by rw [hx]; exact Nat.mod_lt _ s0
  have ys : y < s := by rw [hy]; exact Nat.mod_lt _ s0
  have js : j < sq := by rw [hj]; exact Nat.mod_lt _ q0
  have C1 := fun W hW => index_in k x y W hW k1 k2 (by rw [← hs]; exact xs) (by rw [← hs]; exact ys)
  have C2 := fun W hW => point_in k (idx k x y) W hW k1 k2 (idx_lt k x y (by rw [← hs]; exact xs) (by rw [← hs]; exact ys))
  rw [pnt_idx k x y (by rw [← hs]; exact xs) (by rw [← hs]; exact ys)] at C2
  have C3 := fun W hW => point_in k j W hW k1 k2 (by rw [← hsq]; exact js)
  have pl := pnt_lt k j (by rw [← hsq]; exact js)
  have C4 := fun W hW => index_in k (pnt k j).1 (pnt k j).2 W hW k1 k2 pl.1 pl.2
  rw [idx_pnt k j (by rw [← hsq]; exact js)] at C4
  rw [← hs] at pl
  obtain ⟨u, hu⟩ : ∃ u, u = (pnt k j).1 := ⟨_, rfl⟩
  obtain ⟨v, hv⟩ : ∃ v, v = (pnt k j).2 := ⟨_, rfl⟩
  obtain ⟨n, hn⟩ : ∃ n, n = idx k x y := ⟨_, rfl⟩
  rw [← hu, ← hv] at C3 C4 pl
  rw [← hn] at C1 C2
  have H1 := Lib.hid C1
  have H2 := Lib.hid C2
  have H3 := Lib.hid C3
  have H4 := Lib.hid C4
  have s3 : ¬ s = 0 := by omega
  have q3 : ¬ sq = 0 := by omega
  obtain ⟨g, eg⟩ : ∃ g, g = w.heap.size := ⟨_, rfl⟩
  obtain ⟨W0, hW0⟩ : ∃ W, W = w.alloc (.cells #[.int .u32 a, .int .u32 b] 23) := ⟨_, rfl⟩
  have b0 : Below w.heap.size w W0 := by rw [hW0]; exact (Below.refl _ _).alloc (Nat.le_refl _) _
  have r0 : Row W0 g 23 #[.int .u32 a, .int .u32 b] := by rw [hW0]; exact Row.new' 23 _ eg
  have B0 := Lib.hid b0
  have HW0 := Lib.hid hW0
  have EG := Lib.hid eg
  have R0 := Lib.hid r0
  have HT := Lib.hid hT
  clear C1 C2 C3 C4 hs hsq hx hy hj hu hv hn b0 r0 hW0 eg hT hm hk pl
  go_enter Tryd.func4, Tryd.ntmps4
  go_wp2_with (first | ((with_reducible show wpList _ _ _ (Oper.mk _ (Op.box _ _) _ _ _ _ :: _) _ _); (refine wpList_box_row rfl 23 (.tmp 1) rfl _ rfl g EG.out ?_; refine wpList_atE HW0.out ?_)))
  refine (sanity_any _ (HT.out.below B0.out (Nat.le_refl _))).mono ?_
  rintro e w1 ⟨rfl, b⟩
  have B1 := Lib.hid (bel_tr B0.out b)
  have r1 := R0.out.below b R0.out.lt
  have c0 := r1.cell 0
  have c1 := r1.cell 1
  simp only [List.getElem?_toArray, List.getElem?_cons_zero, List.getElem?_cons_succ] at c0 c1
  clear b r1
  go_wp2_with fail
  go_quiet (fail)
  go_wp2_with fail
  go_quiet (fail)
  go_wp2_with fail
  refine (H1.out _ ((HT.out.below B1.out (Nat.le_refl _)).drewN _)).mono ?_
  rintro e w2 ⟨rfl, b⟩
  have B2 := Lib.hid (bel_tr (below_drewN B1.out _) b)
  clear b
  go_wp2_with fail
  refine (H2.out _ (HT.out.below B2.out (Nat.le_refl _))).mono ?_
  rintro e w3 ⟨rfl, b⟩
  have B3 := Lib.hid (bel_tr B2.out b)
  clear b
  go_wp2_with fail
  refine (H3.out _ (HT.out.below B3.out (Nat.le_refl _))).mono ?_
  rintro e w4 ⟨rfl, b⟩
  have B4 := Lib.hid (bel_tr B3.out b)
  clear b
  go_wp2_with fail
  refine (H4.out _ (HT.out.below B4.out (Nat.le_refl _))).mono ?_
  rintro e w5 ⟨rfl, b⟩
  have B5 := Lib.hid (bel_tr B4.out b)
  clear b
  go_wp2_with fail
  go_ret
  exact ⟨rfl, B5.out⟩

theorem continuous_walk (o i : Nat) (w : World) (hT : Tab w) (ho : o < 256) (hi : i < 18446744073709551616) :
    Calls Tryd.prog 5 #[.int .u8 o, .int .u64 i] w fun e w' => e = .returned (.bool true) ∧ Below w.heap.size w w' := by
  obtain ⟨m, hm⟩ : ∃ m, m = o % 16 := ⟨_, rfl⟩
  obtain ⟨k, hk⟩ : ∃ k, k = 1 + m := ⟨_, rfl⟩
  have m1 : (o : Int) % 16 = (m : Int) := by omega
  have m2 : 1 + (m : Int) = (k : Int) := by omega
  have k1 : 1 ≤ k := by omega
  have k2 : k ≤ 16 := by omega
  obtain ⟨s, hs⟩ : ∃ s, s = 2 ^ k := ⟨_, rfl⟩
  obtain ⟨sq, hsq⟩ : ∃ s, s = 4 ^ k := ⟨_, rfl⟩
  have s1 : s ≤ 65536 := by rw [hs]; exact pow_le16 k k2
  have q0 : 4 ≤ sq := by
    rw [hsq, show k = (k - 1) + 1 by omega, Nat.pow_succ]
    have := four_pos (k - 1)
    omega
  have q1 : sq ≤ 4294967296 := by rw [hsq]; exact four_le16 k k2
  have t2 : (2 : Int) ^ (2 * k) = (sq : Int) := by rw [hsq]; exact int_four_pow k
  obtain ⟨sp, hsp⟩ : ∃ p, p = sq - 1 := ⟨_, rfl⟩
  have p1 : (sq : Int) - 1 = (sp : Int) := by omega
  obtain ⟨j, hj⟩ : ∃ j, j = i % sp := ⟨_, rfl⟩
  have j1 : (i : Int) % (sp : Int) = (j : Int) := by rw [hj]; simp
  have js : j < sp := by rw [hj]; exact Nat.mod_lt _ (by omega)
  have C1 := fun W hW => point_in k j W hW k1 k2 (by rw [← hsq]; omega)
  have C2 := fun W hW => point_in k (j + 1) W hW k1 k2 (by rw [← hsq]; omega)
  have NX := pnt_next k j (by rw [← hsq]; omega)
  have pl := pnt_lt k j (by rw [← hsq]; omega)
  have pl' := pnt_lt k (j + 1) (by rw [← hsq]; omega)
  rw [← hs] at pl pl'
  obtain ⟨x, hx⟩ : ∃ u, u = (pnt k j).1 := ⟨_, rfl⟩
  obtain ⟨y, hy⟩ : ∃ u, u = (pnt k j).2 := ⟨_, rfl⟩
  obtain ⟨u, hu⟩ : ∃ u, u = (pnt k (j + 1)).1 := ⟨_, rfl⟩
  obtain ⟨v, hv⟩ : ∃ v, v = (pnt k (j + 1)).2 := ⟨_, rfl⟩
  have NN : x = u ∧ (y + 1 = v ∨ v + 1 = y) ∨ y = v ∧ (x + 1 = u ∨ u + 1 = x) := by
    rw [hx, hy, hu, hv]
    unfold near at NX
    omega
  rw [← hx, ← hy] at C1 pl
  rw [← hu, ← hv] at C2 pl'
  obtain ⟨j', hj'⟩ : ∃ j', j' = j + 1 := ⟨_, rfl⟩
  rw [← hj'] at C2
  have j2 : (j : Int) + 1 = (j' : Int) := by omega
  have H1 := Lib.hid C1
  have H2 := Lib.hid C2
  have p3 : ¬ sp = 0 := by omega
  have B0 := Lib.hid (Below.refl w.heap.size w)
  have HT := Lib.hid hT
  have x1 : x ≤ 65535 := by omega
  have y1 : y ≤ 65535 := by omega
  have u1 : u ≤ 65535 := by omega
  have v1 : v ≤ 65535 := by omega
  clear C1 C2 NX pl pl' hx hy hu hv hj hj' hsp hsq hs hT hm hk
  rcases NN with ⟨e, h | h⟩ | ⟨e, h | h⟩
  · subst e
    have f1 : ((y : Int) + 1 == (v : Int)) = true := by rw [beq_iff_eq]; omega
    have f2 : (y : Int) + 1 = (v : Int) := by omega
    clear h
    go_enter Tryd.func5, Tryd.ntmps5
    go_wp2_with fail
    refine (sanity_any _ HT.out).mono ?_
    rintro e w1 ⟨rfl, b⟩
    have B1 := Lib.hid b
    clear b
    go_wp2_with fail
    refine (H1.out _ (HT.out.below B1.out (Nat.le_refl _))).mono ?_
    rintro e w2 ⟨rfl, b⟩
    have B2 := Lib.hid (bel_tr B1.out b)
    clear b
    go_wp2_with fail
    refine (H2.out _ (HT.out.below B2.out (Nat.le_refl _))).mono ?_
    rintro e w3 ⟨rfl, b⟩
    have B3 := Lib.hid (bel_tr B2.out b)
    clear b
    go_wp2_with fail
    go_ret
    exact ⟨rfl, B3.out⟩
  · subst e
    have f1 : ((y : Int) + 1 == (v : Int)) = false := beq_eq_false_iff_ne.2 (by omega)
    have f3 : ((v : Int) + 1 == (y : Int)) = true := by rw [beq_iff_eq]; omega
    have f2 : (v : Int) + 1 = (y : Int) := by omega
    have f4 : ¬ (y : Int) + 1 = (v : Int) := by omega
    clear h
    go_enter Tryd.func5, Tryd.ntmps5
    go_wp2_with fail
    refine (sanity_any _ HT.out).mono ?_
    rintro e w1 ⟨rfl, b⟩
    have B1 := Lib.hid b
    clear b
    go_wp2_with fail
    refine (H1.out _ (HT.out.below B1.out (Nat.le_refl _))).mono ?_
    rintro e w2 ⟨rfl, b⟩
    have B2 := Lib.hid (bel_tr B1.out b)
    clear b
    go_wp2_with fail
    refine (H2.out _ (HT.out.below B2.out (Nat.le_refl _))).mono ?_
    rintro e w3 ⟨rfl, b⟩
    have B3 := Lib.hid (bel_tr B2.out b)
    clear b
    go_wp2_with fail
    go_ret
    exact ⟨rfl, B3.out⟩
  · subst e
    have f0 : ((x : Int) == (u : Int)) = false := beq_eq_false_iff_ne.2 (by omega)
    have f0' : ¬ x = u := by omega
    have f2 : (x : Int) + 1 = (u : Int) := by omega
    clear h
    go_enter Tryd.func5, Tryd.ntmps5
    go_wp2_with fail
    refine (sanity_any _ HT.out).mono ?_
    rintro e w1 ⟨rfl, b⟩
    have B1 := Lib.hid b
    clear b
    go_wp2_with fail
    refine (H1.out _ (HT.out.below B1.out (Nat.le_refl _))).mono ?_
    rintro e w2 ⟨rfl, b⟩
    have B2 := Lib.hid (bel_tr B1.out b)
    clear b
    go_wp2_with fail
    refine (H2.out _ (HT.out.below B2.out (Nat.le_refl _))).mono ?_
    rintro e w3 ⟨rfl, b⟩
    have B3 := Lib.hid (bel_tr B2.out b)
    clear b
    go_wp2_with fail
    go_ret
    exact ⟨rfl, B3.out⟩
  · subst e
    have f0 : ((x : Int) == (u : Int)) = false := beq_eq_false_iff_ne.2 (by omega)
    have f0' : ¬ x = u := by omega
    have f1 : ((x : Int) + 1 == (u : Int)) = false := beq_eq_false_iff_ne.2 (by omega)
    have f2 : (u : Int) + 1 = (x : Int) := by omega
    have f4 : ¬ (x : Int) + 1 = (u : Int) := by omega
    clear h
    go_enter Tryd.func5, Tryd.ntmps5
    go_wp2_with fail
    refine (sanity_any _ HT.out).mono ?_
    rintro e w1 ⟨rfl, b⟩
    have B1 := Lib.hid b
    clear b
    go_wp2_with fail
    refine (H1.out _ (HT.out.below B1.out (Nat.le_refl _))).mono ?_
    rintro e w2 ⟨rfl, b⟩
    have B2 := Lib.hid (bel_tr B1.out b)
    clear b
    go_wp2_with fail
    refine (H2.out _ (HT.out.below B2.out (Nat.le_refl _))).mono ?_
    rintro e w3 ⟨rfl, b⟩
    have B3 := Lib.hid (bel_tr B2.out b)
    clear b
    go_wp2_with fail
    go_ret
    exact ⟨rfl, B3.out⟩
end Go.Proofs.YtnpkbjekodjcjaaDoor
