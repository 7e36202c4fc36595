/- The walk of law 3: Index and Point agree with the reference. -/
import Derived.Test.YtnpkbjekodjcjaaDoorWa
set_option linter.all false
namespace Go.Proofs.YtnpkbjekodjcjaaDoor
open Go.RowKit Go.Fen Hil
set_option linter.unusedVariables false
set_option maxHeartbeats 4000000

set_option maxRecDepth 20000 in
theorem matches_walk (o : Int) (a b i : Nat) (w : World) (hT : Tab w) (ho : -9223372036854775808 ≤ o ∧ o < 9223372036854775808) (hp : a < 4294967296 ∧ b < 4294967296) (hi : i < 18446744073709551616) :
    Calls Tryd.prog 3 #[.int .i64 o, .agg #[.int .u32 a, .int .u32 b], .int .u64 i] w fun e w' => e = .returned (.bool true) ∧ Below w.heap.size w w' := by
  obtain ⟨ha, hb⟩ := hp
  obtain ⟨r, hr⟩ : ∃ r, r = o.tmod 16 := ⟨_, rfl⟩
  have rb : -16 < r ∧ r < 16 := by
    rw [hr]
    constructor
    · by_cases h : 0 ≤ o
      · have := Int.tmod_nonneg 16 h; omega
      · have h1 := Int.tmod_nonneg 16 (show 0 ≤ -o by omega)
        have h2 := Int.tmod_lt_of_pos (-o) (show (0 : Int) < 16 by decide)
        rw [Int.neg_tmod] at h1 h2
        omega
    · exact Int.tmod_lt_of_pos o (by decide)
  obtain ⟨r16, hr16⟩ : ∃ q : Nat, (q : Int) = r + 16 := ⟨(r + 16).toNat, by omega⟩
  have r1 : o.tmod 16 = r := hr.symm
  have r2 : r + 16 = (r16 : Int) := hr16.symm
  obtain ⟨m, hm⟩ : ∃ m, m = r16 % 16 := ⟨_, rfl⟩
  obtain ⟨k, hk⟩ : ∃ k, k = 1 + m := ⟨_, rfl⟩
  have m1 : (r16 : Int) % 16 = (m : Int) := by omega
  have m2 : 1 + (m : Int) = (k : Int) := by omega
  have k1 : 1 ≤ k := by omega
  have k2 : k ≤ 16 := by omega
  obtain ⟨s, hs⟩ : ∃ s, s = 2 ^ k := ⟨_, rfl⟩
  obtain ⟨sq, hsq⟩ : ∃ s, s = 4 ^ k := ⟨_, rfl⟩
  have s0 : 0 < s := by rw [hs]; exact two_pos k
  have s1 : s ≤ 65536 := by rw [hs]; exact pow_le16 k k2
  have q0 : 0 < sq := by rw [hsq]; exact four_pos k
  have q1 : sq ≤ 4294967296 := by rw [hsq]; exact four_le16 k k2
  have t1 : (2 : Int) ^ k = (s : Int) := by rw [hs]; exact int_two_pow k
  have t2 : (2 : Int) ^ (2 * k) = (sq : Int) := by rw [hsq]; exact int_four_pow k
  obtain ⟨x, hx⟩ : ∃ x, x = a % s := ⟨_, rfl⟩
  obtain ⟨y, hy⟩ : ∃ y, y = b % s := ⟨_, rfl⟩
  obtain ⟨j, hj⟩ : ∃ j, j = i % sq := ⟨_, rfl⟩
  have x1 : (a : Int) % (s : Int) = (x : Int) := by rw [hx]; simp
  have y1 : (b : Int) % (s : Int) = (y : Int) := by rw [hy]; simp
  have j1 : (i : Int) % (sq : Int) = (j : Int) := by rw [hj]; simp
  have xs : x < s := by rw [hx]; exact Nat.mod_lt _ s0
  have ys : y < s := by rw [hy]; exact Nat.mod_lt _ s0
  have js : j < sq := by rw [hj]; exact Nat.mod_lt _ q0
  have xl : x ≤ 65535 := by omega
  have yl : y ≤ 65535 := by omega
  have jl : j ≤ 4294967295 := by omega
  have C1 := fun W hW => index_any k x y W hW
  have C2 := fun W => rIndex_any k x y W
  have C3 := fun W hW => index_any o a b W hW
  have C4 := fun W => rIndex_any o a b W
  have C5 := fun W hW => point_any k j W hW
  have C6 := fun W => rPoint_any k j W
  have C7 := fun W hW => point_any o i W hW
  have C8 := fun W => rPoint_any o i W
  generalize indexR k x y = z1 at *
  generalize indexR o a b = z2 at *
  generalize pointR k j = z3 at *
  generalize pointR o i = z4 at *
  obtain ⟨n1, e1⟩ := z1
  obtain ⟨n2, e2⟩ := z2
  obtain ⟨n3, f3, e3⟩ := z3
  obtain ⟨n4, f4, e4⟩ := z4
  have H1 := Lib.hid C1
  have H2 := Lib.hid C2
  have H3 := Lib.hid C3
  have H4 := Lib.hid C4
  have H5 := Lib.hid C5
  have H6 := Lib.hid C6
  have H7 := Lib.hid C7
  have H8 := Lib.hid C8
  have s3 : ¬ s = 0 := by omega
  have q3 : ¬ sq = 0 := by omega
  obtain ⟨g, eg⟩ : ∃ g, g = w.heap.size := ⟨_, rfl⟩
  obtain ⟨W0, hW0⟩ : ∃ W, W = w.alloc (.cells #[.int .u32 a, .int .u32 b] 23) := ⟨_, rfl⟩
  have b0 : Below w.heap.size w W0 := by rw [hW0]; exact (Below.refl _ _).alloc (Nat.le_refl _) _
  have r0 : Row W0 g 23 #[.int .u32 a, .int .u32 b] := by rw [hW0]; exact Row.new' 23 _ eg
  have B0 := Lib.hid b0
  have HW0 := Lib.hid hW0
  have EG := Lib.hid eg
  have R0 := Lib.hid r0
  have HT := Lib.hid hT
  clear C1 C2 C3 C4 C5 C6 C7 C8 hs hsq hx hy hj b0 r0 hW0 eg hT hm hk hr hr16
  go_enter Tryd.func3, Tryd.ntmps3
  go_wp2_with (first | ((with_reducible show wpList _ _ _ (Oper.mk _ (Op.box _ _) _ _ _ _ :: _) _ _); (refine wpList_box_row rfl 23 (.tmp 1) rfl _ rfl g EG.out ?_; refine wpList_atE HW0.out ?_)))
  refine (sanity_any _ (HT.out.below B0.out (Nat.le_refl _))).mono ?_
  rintro e w1 ⟨rfl, b⟩
  have B1 := Lib.hid (bel_tr B0.out b)
  have R1 := Lib.hid (R0.out.below b R0.out.lt)
  have c0 := R1.out.cell 0
  have c1 := R1.out.cell 1
  simp only [List.getElem?_toArray, List.getElem?_cons_zero, List.getElem?_cons_succ] at c0 c1
  clear b
  go_wp2_with fail
  go_quiet (fail)
  go_wp2_with fail
  go_quiet (fail)
  go_wp2_with fail
  refine (H1.out _ ((HT.out.below B1.out (Nat.le_refl _)).drewN _)).mono ?_
  rintro e w2 ⟨rfl, b⟩
  have B2 := Lib.hid (bel_tr (below_drewN B1.out _) b)
  have R2 := Lib.hid ((R1.out.drewN _).below b R1.out.lt)
  have d0 := R2.out.cell 0
  have d1 := R2.out.cell 1
  simp only [List.getElem?_toArray, List.getElem?_cons_zero, List.getElem?_cons_succ] at d0 d1
  clear b c0 c1
  go_wp2_with fail
  refine (H2.out _).mono ?_
  rintro e w3 ⟨rfl, rfl⟩
  go_wp2_with fail
  refine (H3.out _ (HT.out.below B2.out (Nat.le_refl _))).mono ?_
  rintro e w4 ⟨rfl, b⟩
  have B4 := Lib.hid (bel_tr B2.out b)
  have R4 := Lib.hid (R2.out.below b R2.out.lt)
  have g0 := R4.out.cell 0
  have g1 := R4.out.cell 1
  simp only [List.getElem?_toArray, List.getElem?_cons_zero, List.getElem?_cons_succ] at g0 g1
  clear b d0 d1
  go_wp2_with fail
  refine (H4.out _).mono ?_
  rintro e w5 ⟨rfl, rfl⟩
  go_wp2_with fail
  refine (H5.out _ (HT.out.below B4.out (Nat.le_refl _))).mono ?_
  rintro e w6 ⟨rfl, b⟩
  have B6 := Lib.hid (bel_tr B4.out b)
  clear b g0 g1
  go_wp2_with fail
  refine (H6.out _).mono ?_
  rintro e w7 ⟨rfl, rfl⟩
  go_wp2_with fail
  refine (H7.out _ (HT.out.below B6.out (Nat.le_refl _))).mono ?_
  rintro e w8 ⟨rfl, b⟩
  have B8 := Lib.hid (bel_tr B6.out b)
  clear b
  go_wp2_with fail
  refine (H8.out _).mono ?_
  rintro e w9 ⟨rfl, rfl⟩
  go_wp2_with fail
  go_ret
  exact ⟨rfl, B8.out⟩
end Go.Proofs.YtnpkbjekodjcjaaDoor
