/- The contract of hilbert.Index. -/
import Derived.Test.YtnpkbjekodjcjaaDoorF
set_option linter.all false
namespace Go.Proofs.YtnpkbjekodjcjaaDoor
open Go.RowKit Go.Fen Hil
set_option linter.unusedVariables false
set_option maxHeartbeats 40000000

theorem idx_step (j x y s : Nat) (hs : s = 2 ^ j) (hx : x < 2 * s) (hy : y < 2 * s) :
    (x < s ∧ y < s ∧ x / s = 0 ∧ y / s = 0 ∧ x % s = x ∧ y % s = y ∧ idx (j + 1) x y = 0 * 4 ^ j + idx j y x) ∨
    (x < s ∧ s ≤ y ∧ x / s = 0 ∧ y / s = 1 ∧ x % s = x ∧ y % s = y - s ∧ idx (j + 1) x y = 1 * 4 ^ j + idx j x (y - s)) ∨
    (s ≤ x ∧ s ≤ y ∧ x / s = 1 ∧ y / s = 1 ∧ x % s = x - s ∧ y % s = y - s ∧ idx (j + 1) x y = 2 * 4 ^ j + idx j (x - s) (y - s)) ∨
    (s ≤ x ∧ y < s ∧ x / s = 1 ∧ y / s = 0 ∧ x % s = x - s ∧ y % s = y ∧ idx (j + 1) x y = 3 * 4 ^ j + idx j (s - 1 - y) (s - 1 - (x - s))) := by
  have d1 : ∀ z, s ≤ z → z < 2 * s → z / s = 1 := fun z a b => by
    apply Nat.le_antisymm
    · have := (Nat.div_lt_iff_lt_mul (show 0 < s by omega)).2 b; omega
    · exact (Nat.le_div_iff_mul_le (show 0 < s by omega)).2 (by omega)
  have m1 : ∀ z, s ≤ z → z < 2 * s → z % s = z - s := fun z a b => by
    rw [Nat.mod_eq_sub_mod a, Nat.mod_eq_of_lt (by omega)]
  have E : idx (j + 1) x y = if x < s then if y < s then idx j y x else 4 ^ j + idx j x (y - s) else if y < s then 3 * 4 ^ j + idx j (s - 1 - y) (2 * s - 1 - x) else 2 * 4 ^ j + idx j (x - s) (y - s) := by
    rw [idx, ← hs]
  by_cases a : x < s
  · by_cases b : y < s
    · refine .inl ⟨a, b, Nat.div_eq_of_lt a, Nat.div_eq_of_lt b, Nat.mod_eq_of_lt a, Nat.mod_eq_of_lt b, ?_⟩
      rw [E, if_pos a, if_pos b]; omega
    · refine .inr (.inl ⟨a, by omega, Nat.div_eq_of_lt a, d1 y (by omega) hy, Nat.mod_eq_of_lt a, m1 y (by omega) hy, ?_⟩)
      rw [E, if_pos a, if_neg b]; omega
  · by_cases b : y < s
    · refine .inr (.inr (.inr ⟨by omega, b, d1 x (by omega) hx, Nat.div_eq_of_lt b, m1 x (by omega) hx, Nat.mod_eq_of_lt b, ?_⟩))
      rw [E, if_neg a, if_pos b, show s - 1 - (x - s) = 2 * s - 1 - x by omega]
    · refine .inr (.inr (.inl ⟨by omega, by omega, d1 x (by omega) hx, d1 y (by omega) hy, m1 x (by omega) hx, m1 y (by omega) hy, ?_⟩))
      rw [E, if_neg a, if_neg b]

theorem mul_step (out q j r : Nat) : (4 * out + q) * 4 ^ j + r = out * 4 ^ (j + 1) + (q * 4 ^ j + r) := by
  rw [Nat.pow_succ, Nat.add_mul, Nat.mul_comm 4 out, Nat.mul_assoc, Nat.mul_comm 4 (4 ^ j)]; omega

theorem index_any (k : Int) (x0 y0 : Nat) (w : World) (hT : Tab w) :
    Calls Tryd.prog 11 #[.int .i64 k, .int .u32 x0, .int .u32 y0] w fun e w' => e = .returned (.tuple #[.int .u64 (indexR k x0 y0).1, .int .i64 (indexR k x0 y0).2]) ∧ Below w.heap.size w w' := by
  have RI := Lib.hid (fun k w => right_any k w)
  have B0 := Lib.hid (Below.refl w.heap.size w)
  by_cases k1 : k < 1 ∨ 16 < k
  · have E : indexR k x0 y0 = (0, 1) := by rw [indexR, if_pos (by omega)]
    rw [E]
    have R := right_any k w
    rw [decide_eq_false (by omega)] at R
    have RR := Lib.hid R
    clear R hT E
    go_enter Tryd.func11, Tryd.ntmps11
    go_wp2_with fail
    refine RR.out.mono ?_
    rintro e w' ⟨rfl, rfl⟩
    go_wp2_with fail
    go_ret2
    exact ⟨rfl, B0.out⟩
  obtain ⟨n, rfl⟩ : ∃ n : Nat, k = n := ⟨k.toNat, by omega⟩
  have R := right_any n w
  rw [decide_eq_true (by omega)] at R
  have RR := Lib.hid R
  clear R
  obtain ⟨s, hs⟩ : ∃ s, s = 2 ^ n := ⟨_, rfl⟩
  have hs0 : 0 < s := by rw [hs]; exact two_pos n
  have hs1 : s ≤ 65536 := by rw [hs]; exact pow_le16 n (by omega)
  have h2 : (2 : Int) ^ n = (s : Int) := by rw [hs]; exact int_two_pow n
  have hn : n ≤ 16 := by omega
  have E : indexR n x0 y0 = if s ≤ x0 ∨ s ≤ y0 then (0, 1) else (idx n x0 y0, 0) := by
    rw [indexR, Int.toNat_natCast, ← hs]
    by_cases h : s ≤ x0 ∨ s ≤ y0
    · rw [if_pos h, if_pos (.inr (.inr h))]
    · rw [if_neg h, if_neg (by omega)]
  rw [E]
  have HS := Lib.hid hs
  have HT := Lib.hid hT
  clear E hs hT
  by_cases a : s ≤ x0
  · rw [if_pos (.inl a)]
    have a' : (s : Int) ≤ (x0 : Int) := by omega
    go_enter Tryd.func11, Tryd.ntmps11
    go_wp2_with fail
    refine RR.out.mono ?_
    rintro e w' ⟨rfl, rfl⟩
    go_wp2_with fail
    go_ret2
    exact ⟨rfl, B0.out⟩
  by_cases b : s ≤ y0
  · rw [if_pos (.inr b)]
    have a' : ¬ (s : Int) ≤ (x0 : Int) := by omega
    have b' : (s : Int) ≤ (y0 : Int) := by omega
    go_enter Tryd.func11, Tryd.ntmps11
    go_wp2_with fail
    refine RR.out.mono ?_
    rintro e w' ⟨rfl, rfl⟩
    go_wp2_with fail
    go_ret2
    exact ⟨rfl, B0.out⟩
  rw [if_neg (by omega)]
  have a' : ¬ (s : Int) ≤ (x0 : Int) := by omega
  have b' : ¬ (s : Int) ≤ (y0 : Int) := by omega
  have AX := Lib.hid (show x0 < 2 ^ n by rw [← HS.out]; omega)
  have AY := Lib.hid (show y0 < 2 ^ n by rw [← HS.out]; omega)
  obtain ⟨n1, hn1⟩ : ∃ n1, n = n1 + 1 := ⟨n - 1, by omega⟩
  have hi1 : (n : Int) - 1 = (n1 : Int) := by omega
  obtain ⟨s1, hs1'⟩ : ∃ s1, s1 = 2 ^ n1 := ⟨_, rfl⟩
  have h21 : (2 : Int) ^ n1 = (s1 : Int) := by rw [hs1']; exact int_two_pow n1
  have hs1b : s1 ≤ 65536 := by rw [hs1']; exact pow_le16 n1 (by omega)
  obtain ⟨r, hr⟩ : ∃ r, r = idx n x0 y0 := ⟨_, rfl⟩
  have RL := Lib.hid (show r < 4294967296 by rw [hr]; exact Nat.lt_of_lt_of_le (idx_lt _ _ _ AX.out AY.out) (four_le16 n (by omega)))
  rw [← hr]
  have HR := Lib.hid hr
  have HN1 := Lib.hid hn1
  have HS1 := Lib.hid hs1'
  clear hr hn1 hs1'
  go_enter Tryd.func11, Tryd.ntmps11
  go_wp2_with fail
  refine RR.out.mono ?_
  rintro e w1 ⟨rfl, rfl⟩
  go_wp2_with fail
  go_loopw [1, 2, 8, 9, 10] (fun vx vy vo vs _ wr => ∃ j x y o t : Nat, j ≤ n ∧ vx = .int .u32 x ∧ vy = .int .u32 y ∧ vo = .int .u64 o ∧ vs = .int .u32 t ∧ t = 2 ^ j / 2 ∧ x < 2 ^ j ∧ y < 2 ^ j ∧ o * 4 ^ j + idx j x y = r ∧ Below w1.heap.size w1 wr) (fun _ _ _ vs _ _ => (intOf vs).toNat)
  case atStart =>
    refine ⟨n, x0, y0, 0, s1, Nat.le_refl _, rfl, rfl, rfl, by first | rfl | go_num, ?_, AX.out, AY.out, ?_, B0.out⟩
    · rw [HS1.out, HN1.out, two_mul_pow]; omega
    · rw [HR.out]; omega
  case round =>
    obtain ⟨j, x, y, o, t, hj, rfl, rfl, rfl, rfl, ht, hx, hy, hr, hb⟩ := hrel
    by_cases j0 : j = 0
    · subst j0
      obtain rfl : t = 0 := by rw [ht]
      obtain rfl : o = r := by simp [idx] at hr; exact hr
      clear ht hx hy hr
      have HB := Lib.hid hb
      clear hb
      go_wp2_with fail
      go_ret2
      exact ⟨rfl, HB.out⟩
    · obtain ⟨m, rfl⟩ : ∃ m, j = m + 1 := ⟨j - 1, by omega⟩
      have ht' : t = 2 ^ m := by rw [ht, two_mul_pow]; omega
      rw [two_mul_pow, ← ht'] at hx hy
      have tp : 0 < t := by rw [ht']; exact two_pos m
      have tl : t ≤ 65536 := by rw [ht']; exact pow_le16 m (by omega)
      have t0 : ¬ t = 0 := by omega
      have ti : (0 : Int) < (t : Int) := by omega
      have ob : o < 4294967296 := by
        have h1 := RL.out
        have h2 : o * 1 ≤ o * 4 ^ (m + 1) := Nat.mul_le_mul_left _ (four_pos (m + 1))
        omega
      have hT' := HT.out.below hb (Nat.le_refl _)
      have AT := at_any t x y wr hT' tp tl hx hy
      have st := idx_step m x y t ht' hx hy
      have HTW := Lib.hid hT'
      have HJ := Lib.hid hj
      have HT2 := Lib.hid ht'
      have HB := Lib.hid hb
      have HRR := Lib.hid hr
      clear ht hj ht' hr hb hT' j0
      have th : ((t / 2 : Nat) : Int) = (t : Int) / 2 := by simp
      have thm : t / 2 < t := by omega
      have t2m : t / 2 = 2 ^ m / 2 := by rw [HT2.out]
      have T2M := Lib.hid t2m
      have THM := Lib.hid thm
      have TH := Lib.hid th
      clear t2m thm th
      rcases st with st | st | st | st
      · obtain ⟨xa, ya, dx, dy, mx, my, ei⟩ := st
        rw [dx, dy] at AT
        have CQ := fun W => swapped_any t x y W 
        obtain ⟨px, hpx⟩ : ∃ px : Nat, px = x := ⟨_, rfl⟩
        obtain ⟨py, hpy⟩ : ∃ py : Nat, py = y := ⟨_, rfl⟩
        obtain ⟨qx', hqx⟩ : ∃ qx' : Nat, qx' = y := ⟨_, rfl⟩
        obtain ⟨qy', hqy⟩ : ∃ qy' : Nat, qy' = x := ⟨_, rfl⟩
        have ex : (x : Int) % (t : Int) = (px : Int) := by rw [hpx, show (x : Int) % (t : Int) = ((x % t : Nat) : Int) by simp, mx]
        have ey : (y : Int) % (t : Int) = (py : Int) := by rw [hpy, show (y : Int) % (t : Int) = ((y % t : Nat) : Int) by simp, my]
        have CQ' : ∀ W, Calls Tryd.prog 74 #[.int .u32 t, .int .u32 px, .int .u32 py] W fun e w' => e = .returned (.tuple #[.int .u32 qx', .int .u32 qy']) ∧ w' = W := by
          rw [hqx, hqy, hpx, hpy]; exact CQ
        have NX := Lib.hid (show qx' < t by omega)
        have NY := Lib.hid (show qy' < t by omega)
        have EI := Lib.hid (show idx (m + 1) x y = 0 * 4 ^ m + idx m qx' qy' by rw [hqx, hqy]; exact ei)
        have HC := Lib.hid CQ'
        have HAT := Lib.hid (show Calls Tryd.prog 27 #[.int .u32 t, .int .u32 x, .int .u32 y] wr fun e w' => e = .returned (.int .i64 (0 : Nat)) ∧ Below wr.heap.size wr w' from AT)
        clear CQ CQ' AT ei mx my dx dy hpx hpy hqx hqy xa ya hx hy
        go_wp2_with fail
        refine HAT.out.mono ?_
        rintro e w2 ⟨rfl, b2⟩
        have tq := (HTW.out.below b2 (Nat.le_refl _)).2 0 (by decide)
        have f2 : w2.cell? ⟨0, 2, none⟩ = some (.func (.func 74) #[] #[]) := tq.2.2.1
        have B2 := Lib.hid (HB.out.trans (b2.mono HB.out.size))
        clear tq b2
        go_wp2_with fail
        go_quiet (first | (exact Calls.quiet_of_same (HC.out _)))
        go_wp2_with fail
        go_roundw
        case rel => exact ⟨m, qx', qy', 4 * o + 0, t / 2, by have := HJ.out; omega, by first | rfl | go_num, by first | rfl | go_num, by first | rfl | go_num, by first | rfl | go_num, T2M.out, by rw [← HT2.out]; exact NX.out, by rw [← HT2.out]; exact NY.out, by rw [mul_step, ← EI.out]; exact HRR.out, below_drewN B2.out _⟩
        case measure => have := THM.out; simp [intOf] <;> omega
      · obtain ⟨xa, ya, dx, dy, mx, my, ei⟩ := st
        rw [dx, dy] at AT
        have CQ := fun W => same_any t x (y - t) W 
        obtain ⟨px, hpx⟩ : ∃ px : Nat, px = x := ⟨_, rfl⟩
        obtain ⟨py, hpy⟩ : ∃ py : Nat, py = (y - t) := ⟨_, rfl⟩
        obtain ⟨qx', hqx⟩ : ∃ qx' : Nat, qx' = x := ⟨_, rfl⟩
        obtain ⟨qy', hqy⟩ : ∃ qy' : Nat, qy' = (y - t) := ⟨_, rfl⟩
        have ex : (x : Int) % (t : Int) = (px : Int) := by rw [hpx, show (x : Int) % (t : Int) = ((x % t : Nat) : Int) by simp, mx]
        have ey : (y : Int) % (t : Int) = (py : Int) := by rw [hpy, show (y : Int) % (t : Int) = ((y % t : Nat) : Int) by simp, my]
        have CQ' : ∀ W, Calls Tryd.prog 75 #[.int .u32 t, .int .u32 px, .int .u32 py] W fun e w' => e = .returned (.tuple #[.int .u32 qx', .int .u32 qy']) ∧ w' = W := by
          rw [hqx, hqy, hpx, hpy]; exact CQ
        have NX := Lib.hid (show qx' < t by omega)
        have NY := Lib.hid (show qy' < t by omega)
        have EI := Lib.hid (show idx (m + 1) x y = 1 * 4 ^ m + idx m qx' qy' by rw [hqx, hqy]; exact ei)
        have HC := Lib.hid CQ'
        have HAT := Lib.hid (show Calls Tryd.prog 27 #[.int .u32 t, .int .u32 x, .int .u32 y] wr fun e w' => e = .returned (.int .i64 (1 : Nat)) ∧ Below wr.heap.size wr w' from AT)
        clear CQ CQ' AT ei mx my dx dy hpx hpy hqx hqy xa ya hx hy
        go_wp2_with fail
        refine HAT.out.mono ?_
        rintro e w2 ⟨rfl, b2⟩
        have tq := (HTW.out.below b2 (Nat.le_refl _)).2 1 (by decide)
        have f2 : w2.cell? ⟨0, 6, none⟩ = some (.func (.func 75) #[] #[]) := tq.2.2.1
        have B2 := Lib.hid (HB.out.trans (b2.mono HB.out.size))
        clear tq b2
        go_wp2_with fail
        go_quiet (first | (exact Calls.quiet_of_same (HC.out _)))
        go_wp2_with fail
        go_roundw
        case rel => exact ⟨m, qx', qy', 4 * o + 1, t / 2, by have := HJ.out; omega, by first | rfl | go_num, by first | rfl | go_num, by first | rfl | go_num, by first | rfl | go_num, T2M.out, by rw [← HT2.out]; exact NX.out, by rw [← HT2.out]; exact NY.out, by rw [mul_step, ← EI.out]; exact HRR.out, below_drewN B2.out _⟩
        case measure => have := THM.out; simp [intOf] <;> omega
      · obtain ⟨xa, ya, dx, dy, mx, my, ei⟩ := st
        rw [dx, dy] at AT
        have CQ := fun W => same_any t (x - t) (y - t) W 
        obtain ⟨px, hpx⟩ : ∃ px : Nat, px = (x - t) := ⟨_, rfl⟩
        obtain ⟨py, hpy⟩ : ∃ py : Nat, py = (y - t) := ⟨_, rfl⟩
        obtain ⟨qx', hqx⟩ : ∃ qx' : Nat, qx' = (x - t) := ⟨_, rfl⟩
        obtain ⟨qy', hqy⟩ : ∃ qy' : Nat, qy' = (y - t) := ⟨_, rfl⟩
        have ex : (x : Int) % (t : Int) = (px : Int) := by rw [hpx, show (x : Int) % (t : Int) = ((x % t : Nat) : Int) by simp, mx]
        have ey : (y : Int) % (t : Int) = (py : Int) := by rw [hpy, show (y : Int) % (t : Int) = ((y % t : Nat) : Int) by simp, my]
        have CQ' : ∀ W, Calls Tryd.prog 75 #[.int .u32 t, .int .u32 px, .int .u32 py] W fun e w' => e = .returned (.tuple #[.int .u32 qx', .int .u32 qy']) ∧ w' = W := by
          rw [hqx, hqy, hpx, hpy]; exact CQ
        have NX := Lib.hid (show qx' < t by omega)
        have NY := Lib.hid (show qy' < t by omega)
        have EI := Lib.hid (show idx (m + 1) x y = 2 * 4 ^ m + idx m qx' qy' by rw [hqx, hqy]; exact ei)
        have HC := Lib.hid CQ'
        have HAT := Lib.hid (show Calls Tryd.prog 27 #[.int .u32 t, .int .u32 x, .int .u32 y] wr fun e w' => e = .returned (.int .i64 (2 : Nat)) ∧ Below wr.heap.size wr w' from AT)
        clear CQ CQ' AT ei mx my dx dy hpx hpy hqx hqy xa ya hx hy
        go_wp2_with fail
        refine HAT.out.mono ?_
        rintro e w2 ⟨rfl, b2⟩
        have tq := (HTW.out.below b2 (Nat.le_refl _)).2 2 (by decide)
        have f2 : w2.cell? ⟨0, 10, none⟩ = some (.func (.func 75) #[] #[]) := tq.2.2.1
        have B2 := Lib.hid (HB.out.trans (b2.mono HB.out.size))
        clear tq b2
        go_wp2_with fail
        go_quiet (first | (exact Calls.quiet_of_same (HC.out _)))
        go_wp2_with fail
        go_roundw
        case rel => exact ⟨m, qx', qy', 4 * o + 2, t / 2, by have := HJ.out; omega, by first | rfl | go_num, by first | rfl | go_num, by first | rfl | go_num, by first | rfl | go_num, T2M.out, by rw [← HT2.out]; exact NX.out, by rw [← HT2.out]; exact NY.out, by rw [mul_step, ← EI.out]; exact HRR.out, below_drewN B2.out _⟩
        case measure => have := THM.out; simp [intOf] <;> omega
      · obtain ⟨xa, ya, dx, dy, mx, my, ei⟩ := st
        rw [dx, dy] at AT
        have CQ := fun W => turned_any t (x - t) y W (by omega) (by omega) (by omega)
        obtain ⟨px, hpx⟩ : ∃ px : Nat, px = (x - t) := ⟨_, rfl⟩
        obtain ⟨py, hpy⟩ : ∃ py : Nat, py = y := ⟨_, rfl⟩
        obtain ⟨qx', hqx⟩ : ∃ qx' : Nat, qx' = (t - 1 - y) := ⟨_, rfl⟩
        obtain ⟨qy', hqy⟩ : ∃ qy' : Nat, qy' = (t - 1 - (x - t)) := ⟨_, rfl⟩
        have ex : (x : Int) % (t : Int) = (px : Int) := by rw [hpx, show (x : Int) % (t : Int) = ((x % t : Nat) : Int) by simp, mx]
        have ey : (y : Int) % (t : Int) = (py : Int) := by rw [hpy, show (y : Int) % (t : Int) = ((y % t : Nat) : Int) by simp, my]
        have CQ' : ∀ W, Calls Tryd.prog 76 #[.int .u32 t, .int .u32 px, .int .u32 py] W fun e w' => e = .returned (.tuple #[.int .u32 qx', .int .u32 qy']) ∧ w' = W := by
          rw [hqx, hqy, hpx, hpy]; exact CQ
        have NX := Lib.hid (show qx' < t by omega)
        have NY := Lib.hid (show qy' < t by omega)
        have EI := Lib.hid (show idx (m + 1) x y = 3 * 4 ^ m + idx m qx' qy' by rw [hqx, hqy]; exact ei)
        have HC := Lib.hid CQ'
        have HAT := Lib.hid (show Calls Tryd.prog 27 #[.int .u32 t, .int .u32 x, .int .u32 y] wr fun e w' => e = .returned (.int .i64 (3 : Nat)) ∧ Below wr.heap.size wr w' from AT)
        clear CQ CQ' AT ei mx my dx dy hpx hpy hqx hqy xa ya hx hy
        go_wp2_with fail
        refine HAT.out.mono ?_
        rintro e w2 ⟨rfl, b2⟩
        have tq := (HTW.out.below b2 (Nat.le_refl _)).2 3 (by decide)
        have f2 : w2.cell? ⟨0, 14, none⟩ = some (.func (.func 76) #[] #[]) := tq.2.2.1
        have B2 := Lib.hid (HB.out.trans (b2.mono HB.out.size))
        clear tq b2
        go_wp2_with fail
        go_quiet (first | (exact Calls.quiet_of_same (HC.out _)))
        go_wp2_with fail
        go_roundw
        case rel => exact ⟨m, qx', qy', 4 * o + 3, t / 2, by have := HJ.out; omega, by first | rfl | go_num, by first | rfl | go_num, by first | rfl | go_num, by first | rfl | go_num, T2M.out, by rw [← HT2.out]; exact NX.out, by rw [← HT2.out]; exact NY.out, by rw [mul_step, ← EI.out]; exact HRR.out, below_drewN B2.out _⟩
        case measure => have := THM.out; simp [intOf] <;> omega
end Go.Proofs.YtnpkbjekodjcjaaDoor
