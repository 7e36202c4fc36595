/- The walk of law 6: aligned squares. -/
import Derived.Test.YtnpkbjekodjcjaaDoorWa
set_option linter.all false
namespace Go.Proofs.YtnpkbjekodjcjaaDoor
open Go.RowKit Go.Fen Hil
set_option linter.unusedVariables false
set_option maxHeartbeats 4000000

theorem xor_div (x d m : Nat) (hd : d < 2 ^ m) : (x ^^^ d) / 2 ^ m = x / 2 ^ m := by
  rw [← Nat.shiftRight_eq_div_pow, ← Nat.shiftRight_eq_div_pow, Nat.shiftRight_xor_distrib, Nat.shiftRight_eq_div_pow d, Nat.div_eq_of_lt hd, Nat.xor_zero]

theorem squares_walk (o a b c e j : Nat) (w : World) (hT : Tab w) (ho : o < 256) (hp : a < 4294967296 ∧ b < 4294967296 ∧ c < 4294967296 ∧ e < 4294967296) (hj : j < 256) :
    Calls Tryd.prog 6 #[.int .u8 o, .agg #[.int .u32 a, .int .u32 b, .int .u32 c, .int .u32 e], .int .u8 j] w fun e w' => e = .returned (.bool true) ∧ Below w.heap.size w w' := by
  obtain ⟨ha, hb, hc, he⟩ := hp
  obtain ⟨mo, hmo⟩ : ∃ m, m = o % 16 := ⟨_, rfl⟩
  obtain ⟨k, hk⟩ : ∃ k, k = 1 + mo := ⟨_, rfl⟩
  obtain ⟨k', hk'⟩ : ∃ k', k' = k + 1 := ⟨_, rfl⟩
  obtain ⟨m, hm⟩ : ∃ m, m = j % k' := ⟨_, rfl⟩
  have m1 : (o : Int) % 16 = (mo : Int) := by omega
  have m2 : 1 + (mo : Int) = (k : Int) := by omega
  have m3 : (k : Int) + 1 = (k' : Int) := by omega
  have m4 : (j : Int) % (k' : Int) = (m : Int) := by rw [hm]; simp
  have m5 : ¬ k' = 0 := by omega
  have k1 : 1 ≤ k := by omega
  have k2 : k ≤ 16 := by omega
  have mk : m ≤ k := by have : m < k' := by rw [hm]; exact Nat.mod_lt _ (by omega)
                        omega
  obtain ⟨s, hs⟩ : ∃ s, s = 2 ^ k := ⟨_, rfl⟩
  obtain ⟨sm, hsm⟩ : ∃ s, s = 2 ^ m := ⟨_, rfl⟩
  obtain ⟨sq, hsq⟩ : ∃ s, s = 4 ^ m := ⟨_, rfl⟩
  have s0 : 0 < s := by rw [hs]; exact two_pos k
  have s1 : s ≤ 65536 := by rw [hs]; exact pow_le16 k k2
  have sm0 : 0 < sm := by rw [hsm]; exact two_pos m
  have sm1 : sm ≤ 65536 := by rw [hsm]; exact pow_le16 m (by omega)
  have q0 : 0 < sq := by rw [hsq]; exact four_pos m
  have q1 : sq ≤ 4294967296 := by rw [hsq]; exact four_le16 m (by omega)
  have t1 : (2 : Int) ^ k = (s : Int) := by rw [hs]; exact int_two_pow k
  have t2 : (2 : Int) ^ m = (sm : Int) := by rw [hsm]; exact int_two_pow m
  have t3 : (2 : Int) ^ (2 * m) = (sq : Int) := by rw [hsq]; exact int_four_pow m
  obtain ⟨x, hx⟩ : ∃ x, x = a % s := ⟨_, rfl⟩
  obtain ⟨y, hy⟩ : ∃ y, y = b % s := ⟨_, rfl⟩
  obtain ⟨u, hu⟩ : ∃ y, y = c % s := ⟨_, rfl⟩
  obtain ⟨v, hv⟩ : ∃ y, y = e % s := ⟨_, rfl⟩
  have x1 : (a : Int) % (s : Int) = (x : Int) := by rw [hx]; simp
  have y1 : (b : Int) % (s : Int) = (y : Int) := by rw [hy]; simp
  have u1 : (c : Int) % (s : Int) = (u : Int) := by rw [hu]; simp
  have v1 : (e : Int) % (s : Int) = (v : Int) := by rw [hv]; simp
  have xs : x < s := by rw [hx]; exact Nat.mod_lt _ s0
  have ys : y < s := by rw [hy]; exact Nat.mod_lt _ s0
  have us : u < s := by rw [hu]; exact Nat.mod_lt _ s0
  have vs : v < s := by rw [hv]; exact Nat.mod_lt _ s0
  obtain ⟨jj, hjj⟩ : ∃ q, q = j / 16 := ⟨_, rfl⟩
  have j1 : (j : Int) / 16 = (jj : Int) := by omega
  have jj1 : jj ≤ 15 := by omega
  obtain ⟨d, hd⟩ : ∃ q, q = jj % sm := ⟨_, rfl⟩
  have d1 : (jj : Int) % (sm : Int) = (d : Int) := by rw [hd]; simp
  have ds : d < sm := by rw [hd]; exact Nat.mod_lt _ sm0
  have dm : d ≤ 65535 := by omega
  obtain ⟨nr, hnr⟩ : ∃ n, n = x ^^^ d := ⟨_, rfl⟩
  have n1 : bits .xor .u32 (x : Int) (d : Int) = (nr : Int) := by rw [hnr]; exact u32_xor_nat _ _ (by omega) (by omega)
  have ns : nr < s := by
    rw [hnr, hs]
    refine Nat.xor_lt_two_pow (by rw [← hs]; exact xs) (Nat.lt_of_lt_of_le ds ?_)
    rw [hsm]
    exact Nat.pow_le_pow_right (by decide) mk
  have C1 := fun W hW => index_in k x y W hW k1 k2 (by rw [← hs]; exact xs) (by rw [← hs]; exact ys)
  have C2 := fun W hW => index_in k u v W hW k1 k2 (by rw [← hs]; exact us) (by rw [← hs]; exact vs)
  have C3 := fun W hW => index_in k nr y W hW k1 k2 (by rw [← hs]; exact ns) (by rw [← hs]; exact ys)
  have L1 := idx_lt k x y (by rw [← hs]; exact xs) (by rw [← hs]; exact ys)
  have L2 := idx_lt k u v (by rw [← hs]; exact us) (by rw [← hs]; exact vs)
  have L3 := idx_lt k nr y (by rw [← hs]; exact ns) (by rw [← hs]; exact ys)
  have f32 := four_le16 k k2
  have SQ := squares k m x y u v mk (by rw [← hs]; exact xs) (by rw [← hs]; exact ys) (by rw [← hs]; exact us) (by rw [← hs]; exact vs)
  have EN : idx k nr y / sq = idx k x y / sq := by
    rw [hsq, idx_div k m nr y mk (by rw [← hs]; exact ns) (by rw [← hs]; exact ys), idx_div k m x y mk (by rw [← hs]; exact xs) (by rw [← hs]; exact ys), hnr, xor_div x d m (by rw [← hsm]; exact ds)]
  rw [← hsm, ← hsq] at SQ
  obtain ⟨i1, hi1⟩ : ∃ n, n = idx k x y := ⟨_, rfl⟩
  obtain ⟨i2, hi2⟩ : ∃ n, n = idx k u v := ⟨_, rfl⟩
  obtain ⟨i3, hi3⟩ : ∃ n, n = idx k nr y := ⟨_, rfl⟩
  rw [← hi1] at C1 L1 SQ EN
  rw [← hi2] at C2 L2 SQ
  rw [← hi3] at C3 L3 EN
  obtain ⟨A, hA⟩ : ∃ n, n = i1 / sq := ⟨_, rfl⟩
  obtain ⟨B, hB⟩ : ∃ n, n = i2 / sq := ⟨_, rfl⟩
  obtain ⟨X, hX⟩ : ∃ n, n = x / sm := ⟨_, rfl⟩
  obtain ⟨Y, hY⟩ : ∃ n, n = y / sm := ⟨_, rfl⟩
  obtain ⟨U, hU⟩ : ∃ n, n = u / sm := ⟨_, rfl⟩
  obtain ⟨V, hV⟩ : ∃ n, n = v / sm := ⟨_, rfl⟩
  have A1 : (i1 : Int) / (sq : Int) = (A : Int) := by rw [hA]; simp
  have B1 : (i2 : Int) / (sq : Int) = (B : Int) := by rw [hB]; simp
  have G1 : (i3 : Int) / (sq : Int) = (A : Int) := by rw [hA, ← EN]; simp
  have X1 : (x : Int) / (sm : Int) = (X : Int) := by rw [hX]; simp
  have Y1 : (y : Int) / (sm : Int) = (Y : Int) := by rw [hY]; simp
  have U1 : (u : Int) / (sm : Int) = (U : Int) := by rw [hU]; simp
  have V1 : (v : Int) / (sm : Int) = (V : Int) := by rw [hV]; simp
  rw [← hA, ← hB, ← hX, ← hY, ← hU, ← hV] at SQ
  have i1l : i1 ≤ 4294967296 := by omega
  have i2l : i2 ≤ 4294967296 := by omega
  have i3l : i3 ≤ 4294967296 := by omega
  have H1 := Lib.hid C1
  have H2 := Lib.hid C2
  have H3 := Lib.hid C3
  have s3 : ¬ s = 0 := by omega
  have sm3 : ¬ sm = 0 := by omega
  have xl : x ≤ 65535 := by omega
  have yl : y ≤ 65535 := by omega
  have ul : u ≤ 65535 := by omega
  have vl : v ≤ 65535 := by omega
  have mm : m ≤ 16 := by omega
  have Al : A ≤ 4294967296 := by rw [hA]; exact Nat.le_trans (Nat.div_le_self _ _) i1l
  have Bl : B ≤ 4294967296 := by rw [hB]; exact Nat.le_trans (Nat.div_le_self _ _) i2l
  have Xl : X ≤ 65535 := by rw [hX]; exact Nat.le_trans (Nat.div_le_self _ _) xl
  have Yl : Y ≤ 65535 := by rw [hY]; exact Nat.le_trans (Nat.div_le_self _ _) yl
  have Ul : U ≤ 65535 := by rw [hU]; exact Nat.le_trans (Nat.div_le_self _ _) ul
  have Vl : V ≤ 65535 := by rw [hV]; exact Nat.le_trans (Nat.div_le_self _ _) vl
  obtain ⟨g, eg⟩ : ∃ g, g = w.heap.size := ⟨_, rfl⟩
  obtain ⟨W0, hW0⟩ : ∃ W, W = w.alloc (.cells #[.int .u32 a, .int .u32 b, .int .u32 c, .int .u32 e] 34) := ⟨_, rfl⟩
  have b0 : Below w.heap.size w W0 := by rw [hW0]; exact (Below.refl _ _).alloc (Nat.le_refl _) _
  have r0 : Row W0 g 34 #[.int .u32 a, .int .u32 b, .int .u32 c, .int .u32 e] := by rw [hW0]; exact Row.new' 34 _ eg
  have B0 := Lib.hid b0
  have HW0 := Lib.hid hW0
  have EG := Lib.hid eg
  have R0 := Lib.hid r0
  have HT := Lib.hid hT
  clear C1 C2 C3 hs hsm hsq hx hy hu hv hjj hd hnr hi1 hi2 hi3 hA hB hX hY hU hV L1 L2 L3 EN f32 b0 r0 hW0 eg hT hm hk hk' hmo mk ds xs ys us vs ns
  by_cases hXU : X = U
  · subst hXU
    by_cases hYV : Y = V
    · subst hYV
      obtain rfl : A = B := SQ.1 ⟨rfl, rfl⟩
      clear SQ
      go_enter Tryd.func6, Tryd.ntmps6
      go_wp2_with (first | ((with_reducible show wpList _ _ _ (Oper.mk _ (Op.box _ _) _ _ _ _ :: _) _ _); (refine wpList_box_row rfl 34 (.tmp 1) rfl _ rfl g EG.out ?_; refine wpList_atE HW0.out ?_)))
      refine (sanity_any _ (HT.out.below B0.out (Nat.le_refl _))).mono ?_
      rintro e w1 ⟨rfl, b⟩
      have B1 := Lib.hid (bel_tr B0.out b)
      have r1 := R0.out.below b R0.out.lt
      have c0 := r1.cell 0
      have c1 := r1.cell 1
      have c2 := r1.cell 2
      have c3 := r1.cell 3
      simp only [List.getElem?_toArray, List.getElem?_cons_zero, List.getElem?_cons_succ] at c0 c1 c2 c3
      clear b r1
      go_wp2_with fail
      go_quiet (fail)
      go_wp2_with fail
      go_quiet (fail)
      go_wp2_with fail
      go_quiet (fail)
      go_wp2_with fail
      go_quiet (fail)
      go_wp2_with fail
      refine (H1.out _ ((HT.out.below B1.out (Nat.le_refl _)).drewN _)).mono ?_
      rintro e w2 ⟨rfl, b⟩
      have B2 := Lib.hid (bel_tr (below_drewN B1.out _) b)
      clear b c0 c1 c2 c3
      go_wp2_with fail
      refine (H2.out _ (HT.out.below B2.out (Nat.le_refl _))).mono ?_
      rintro e w3 ⟨rfl, b⟩
      have B3 := Lib.hid (bel_tr B2.out b)
      clear b
      go_wp2_with fail
      refine (H3.out _ (HT.out.below B3.out (Nat.le_refl _))).mono ?_
      rintro e w4 ⟨rfl, b⟩
      have B4 := Lib.hid (bel_tr B3.out b)
      clear b
      go_wp2_with fail
      go_quiet (fail)
      go_wp2_with fail
      go_ret
      exact ⟨rfl, below_drewN B4.out _⟩
    · have f1 : ((Y : Int) == (V : Int)) = false := beq_eq_false_iff_ne.2 (by omega)
      have hAB : ¬ A = B := fun h => hYV (SQ.2 h).2
      have f2 : ((A : Int) == (B : Int)) = false := beq_eq_false_iff_ne.2 (by omega)
      clear SQ
      go_enter Tryd.func6, Tryd.ntmps6
      go_wp2_with (first | ((with_reducible show wpList _ _ _ (Oper.mk _ (Op.box _ _) _ _ _ _ :: _) _ _); (refine wpList_box_row rfl 34 (.tmp 1) rfl _ rfl g EG.out ?_; refine wpList_atE HW0.out ?_)))
      refine (sanity_any _ (HT.out.below B0.out (Nat.le_refl _))).mono ?_
      rintro e w1 ⟨rfl, b⟩
      have B1 := Lib.hid (bel_tr B0.out b)
      have r1 := R0.out.below b R0.out.lt
      have c0 := r1.cell 0
      have c1 := r1.cell 1
      have c2 := r1.cell 2
      have c3 := r1.cell 3
      simp only [List.getElem?_toArray, List.getElem?_cons_zero, List.getElem?_cons_succ] at c0 c1 c2 c3
      clear b r1
      go_wp2_with fail
      go_quiet (fail)
      go_wp2_with fail
      go_quiet (fail)
      go_wp2_with fail
      go_quiet (fail)
      go_wp2_with fail
      go_quiet (fail)
      go_wp2_with fail
      refine (H1.out _ ((HT.out.below B1.out (Nat.le_refl _)).drewN _)).mono ?_
      rintro e w2 ⟨rfl, b⟩
      have B2 := Lib.hid (bel_tr (below_drewN B1.out _) b)
      clear b c0 c1 c2 c3
      go_wp2_with fail
      refine (H2.out _ (HT.out.below B2.out (Nat.le_refl _))).mono ?_
      rintro e w3 ⟨rfl, b⟩
      have B3 := Lib.hid (bel_tr B2.out b)
      clear b
      go_wp2_with fail
      refine (H3.out _ (HT.out.below B3.out (Nat.le_refl _))).mono ?_
      rintro e w4 ⟨rfl, b⟩
      have B4 := Lib.hid (bel_tr B3.out b)
      clear b
      go_wp2_with fail
      go_quiet (fail)
      go_wp2_with fail
      go_ret
      exact ⟨rfl, below_drewN B4.out _⟩
  · have f1 : ((X : Int) == (U : Int)) = false := beq_eq_false_iff_ne.2 (by omega)
    have hAB : ¬ A = B := fun h => hXU (SQ.2 h).1
    have f2 : ((A : Int) == (B : Int)) = false := beq_eq_false_iff_ne.2 (by omega)
    clear SQ
    go_enter Tryd.func6, Tryd.ntmps6
    go_wp2_with (first | ((with_reducible show wpList _ _ _ (Oper.mk _ (Op.box _ _) _ _ _ _ :: _) _ _); (refine wpList_box_row rfl 34 (.tmp 1) rfl _ rfl g EG.out ?_; refine wpList_atE HW0.out ?_)))
    refine (sanity_any _ (HT.out.below B0.out (Nat.le_refl _))).mono ?_
    rintro e w1 ⟨rfl, b⟩
    have B1 := Lib.hid (bel_tr B0.out b)
    have r1 := R0.out.below b R0.out.lt
    have c0 := r1.cell 0
    have c1 := r1.cell 1
    have c2 := r1.cell 2
    have c3 := r1.cell 3
    simp only [List.getElem?_toArray, List.getElem?_cons_zero, List.getElem?_cons_succ] at c0 c1 c2 c3
    clear b r1
    go_wp2_with fail
    go_quiet (fail)
    go_wp2_with fail
    go_quiet (fail)
    go_wp2_with fail
    go_quiet (fail)
    go_wp2_with fail
    go_quiet (fail)
    go_wp2_with fail
    refine (H1.out _ ((HT.out.below B1.out (Nat.le_refl _)).drewN _)).mono ?_
    rintro e w2 ⟨rfl, b⟩
    have B2 := Lib.hid (bel_tr (below_drewN B1.out _) b)
    clear b c0 c1 c2 c3
    go_wp2_with fail
    refine (H2.out _ (HT.out.below B2.out (Nat.le_refl _))).mono ?_
    rintro e w3 ⟨rfl, b⟩
    have B3 := Lib.hid (bel_tr B2.out b)
    clear b
    go_wp2_with fail
    refine (H3.out _ (HT.out.below B3.out (Nat.le_refl _))).mono ?_
    rintro e w4 ⟨rfl, b⟩
    have B4 := Lib.hid (bel_tr B3.out b)
    clear b
    go_wp2_with fail
    go_quiet (fail)
    go_wp2_with fail
    go_ret
    exact ⟨rfl, below_drewN B4.out _⟩
end Go.Proofs.YtnpkbjekodjcjaaDoor
