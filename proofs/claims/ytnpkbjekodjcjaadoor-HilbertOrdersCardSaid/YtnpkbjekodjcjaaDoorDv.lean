/- The contract of Div64. -/
import Derived.Test.YtnpkbjekodjcjaaDoorLn
set_option linter.all false
namespace Go.Proofs.YtnpkbjekodjcjaaDoor
open Go.RowKit Go.Fen Hil
set_option linter.unusedVariables false
set_option maxHeartbeats 4000000

theorem or_add (a c k : Nat) (hc : c < 2 ^ k) : (a * 2 ^ k) ||| c = a * 2 ^ k + c := by
  rw [Nat.mul_comm, Nat.two_pow_add_eq_or_of_lt hc]

/-- the parts of a long division -/
structure Parts (hi lo y n s P Y y1 y0 hP N c u32 z u10 u1 u0 : Nat) : Prop where
  ns : n + s = 64
  s63 : s ≤ 63
  p1 : (2 : Int) ^ s = (P : Int)
  p2 : (y : Int) * (P : Int) = (Y : Int)
  p3 : Y < 18446744073709551616
  p4 : (Y : Int) / 4294967296 = (y1 : Int)
  p5 : bits .and .u64 (Y : Int) 4294967295 = (y0 : Int)
  p6 : (hi : Int) * (P : Int) = (hP : Int)
  p7 : hP < 18446744073709551616
  p8 : 64 - (s : Int) = (n : Int)
  p9 : (2 : Int) ^ n = (N : Int)
  pa : (lo : Int) / (N : Int) = (c : Int)
  pb : bits .or .u64 (hP : Int) (c : Int) = (u32 : Int)
  pc : (lo : Int) * (P : Int) = (z : Int)
  pd : IntKind.u64.wrap (z : Int) = (u10 : Int)
  pe : (u10 : Int) / 4294967296 = (u1 : Int)
  pf : bits .and .u64 (u10 : Int) 4294967295 = (u0 : Int)
  q1 : Y = y1 * 4294967296 + y0
  q2 : 0 < y1
  q3 : y0 < 4294967296
  q4 : u32 < Y
  q5 : u1 < 4294967296
  q6 : u0 < 4294967296
  q7 : y1 < 4294967296
  q8 : u10 < 18446744073709551616
  q9 : c < 18446744073709551616
  qa : 0 < P
  qb : (hi * 18446744073709551616 + lo) / y = (u32 * 4294967296 + u1) / Y * 4294967296 + ((u32 * 4294967296 + u1) % Y * 4294967296 + u0) / Y

theorem parts_of (hi lo y n s : Nat) (h0 : 0 < hi) (hlo : lo < 18446744073709551616) (hy : hi < y) (hy2 : y < 18446744073709551616) (hn : n + s = 64) (hL : IsLen y n) :
    ∃ P Y y1 y0 hP N c u32 z u10 u1 u0, Parts hi lo y n s P Y y1 y0 hP N c u32 z u10 u1 u0 := by
  obtain ⟨l1, l2⟩ := hL
  have l2 := l2 (by omega)
  have n1 : 1 ≤ n := by
    rcases Nat.eq_zero_or_pos n with h | h
    · subst h; simp at l1; omega
    · exact h
  obtain ⟨P, hP⟩ : ∃ P, P = 2 ^ s := ⟨_, rfl⟩
  obtain ⟨N, hN⟩ : ∃ P, P = 2 ^ n := ⟨_, rfl⟩
  have P0 : 0 < P := by rw [hP]; exact two_pos s
  have N0 : 0 < N := by rw [hN]; exact two_pos n
  have NP : N * P = 18446744073709551616 := by rw [hN, hP, ← Nat.pow_add, hn]
  rw [← hN] at l1 l2
  have Y1 : y * P < 18446744073709551616 := by rw [← NP]; exact Nat.mul_lt_mul_of_pos_right l1 P0
  have Y2 : 18446744073709551616 ≤ 2 * (y * P) := by rw [← NP, ← Nat.mul_assoc]; exact Nat.mul_le_mul_right _ l2
  have hl : lo * P / 18446744073709551616 = lo / N := by rw [← NP, Nat.mul_div_mul_right _ _ P0]
  have c1 : lo / N < P := by rw [Nat.div_lt_iff_lt_mul N0, Nat.mul_comm, NP]; exact hlo
  have h1 : (hi + 1) * P ≤ y * P := Nat.mul_le_mul_right _ hy
  rw [Nat.add_mul, Nat.one_mul] at h1
  have dm := Nat.div_add_mod (lo * P) 18446744073709551616
  have dl := Nat.mod_lt (lo * P) (show 0 < 18446744073709551616 by decide)
  have orr : bits .or .u64 ((hi * P : Nat) : Int) ((lo / N : Nat) : Int) = ((hi * P + lo / N : Nat) : Int) := by
    rw [u64_or _ _ (by omega) (by omega) (by omega) (by omega), Int.toNat_natCast, Int.toNat_natCast]
    rw [hP, or_add hi (lo / N) s (by rw [← hP]; exact c1)]
  refine ⟨P, y * P, y * P / 4294967296, y * P % 4294967296, hi * P, N, lo / N, hi * P + lo / N, lo * P, lo * P % 18446744073709551616, lo * P % 18446744073709551616 / 4294967296, lo * P % 18446744073709551616 % 4294967296, ?_⟩
  refine { ns := hn, s63 := by omega, p1 := by rw [hP]; exact int_two_pow s, p2 := by simp, p3 := Y1, p4 := by simp, p5 := and32 _ Y1, p6 := by simp, p7 := by omega, p8 := by omega, p9 := by rw [hN]; exact int_two_pow n, pa := by simp, pb := orr, pc := by simp, pd := by rw [wrap64]; simp, pe := by simp, pf := and32 _ dl, q1 := by omega, q2 := by omega, q3 := Nat.mod_lt _ (by decide), q4 := by omega, q5 := by omega, q6 := Nat.mod_lt _ (by decide), q7 := by omega, q8 := dl, q9 := by omega, qa := P0, qb := ?_ }
  have td := two_digits (hi * P + lo / N) (lo * P % 18446744073709551616 / 4294967296) (lo * P % 18446744073709551616 % 4294967296) (y * P) 4294967296 (by omega) (by omega) (Nat.mod_lt _ (by decide))
  rw [← td]
  have e1 : (hi * P + lo / N) * (4294967296 * 4294967296) + (lo * P % 18446744073709551616 / 4294967296 * 4294967296 + lo * P % 18446744073709551616 % 4294967296) = (hi * 18446744073709551616 + lo) * P := by
    rw [Nat.add_mul (hi * 18446744073709551616) lo P, Nat.mul_right_comm hi]
    generalize lo * P = lp at *
    rw [hl] at dm
    generalize lo / N = c at *
    generalize hi * P = hp at *
    omega
  rw [e1, Nat.mul_div_mul_right _ _ P0]

theorem digit3 (u v y1 y0 Y Q B : Nat) (gY : Y = y1 * B + y0) (hQ : Q = (u * B + v) / Y) (hv : v < B) (h2 : 0 < y1) (h3 : y0 < B) (hu : u < Y) :
    (∀ q r, u = q * y1 + r → Q ≤ q → q * y0 ≤ B * r + v → Q = q) ∧ (∀ q r, u = q * y1 + r → Q ≤ q → (B ≤ q ∨ B * r + v < q * y0) → Q ≤ q - 1 ∧ 0 < q) ∧ (∀ q r, u = q * y1 + r → Q ≤ q → B ≤ r → Q = q) ∧ Q ≤ u / y1 ∧ Q < B := by
  subst gY
  have hB0 : 0 < B := by omega
  have hy : 0 < y1 * B + y0 := by have := Nat.mul_pos h2 hB0; omega
  refine ⟨fun q r h hq hc => ?_, fun q r h hq hc => ?_, fun q r h hq hr => ?_, ?_, ?_⟩
  · rw [hQ]; exact (digit_stop u v y1 y0 q r B h hv (by rw [← hQ]; exact hq) hy hc).symm
  · rw [hQ]; exact digit_go u v y1 y0 q r B h hv (by rw [← hQ]; exact hq) hy hu hB0 hc
  · rw [hQ]; exact (digit_out u v y1 y0 q r B h hv (by rw [← hQ]; exact hq) h2 h3 hu hr).symm
  · rw [hQ]; exact guess_ge u v y1 y0 B hv h2
  · rw [hQ, Nat.div_lt_iff_lt_mul hy]
    have h1 : (u + 1) * B ≤ (y1 * B + y0) * B := Nat.mul_le_mul_right _ hu
    rw [Nat.add_mul, Nat.one_mul] at h1
    rw [Nat.mul_comm B]
    omega
theorem down_one (q r y : Nat) (h : 1 ≤ q) : q * y + r = (q - 1) * y + (r + y) := by
  obtain ⟨t, rfl⟩ : ∃ t, q = t + 1 := ⟨q - 1, by omega⟩
  rw [Nat.add_sub_cancel, Nat.add_mul, Nat.one_mul]
  omega
theorem mul_lt64 (a b : Nat) (h : a < 4294967296) (k : b < 4294967296) : a * b < 18446744073709551616 := by
  have := Nat.mul_le_mul (show a ≤ 4294967295 by omega) (show b ≤ 4294967295 by omega)
  omega
theorem two_lt (Q1 Q0 : Nat) (h1 : Q1 < 4294967296) (h0 : Q0 < 4294967296) : (Q1 : Int) * 4294967296 + (Q0 : Int) < 18446744073709551616 := by omega
theorem tail_one (u32 u1 Q1 Y u21 : Nat) (h : u32 * 4294967296 + u1 = Q1 * Y + u21) (hl : u21 < 18446744073709551616) : ∃ A1 A2 A3 A4 A5 : Nat, (u32 : Int) * 4294967296 = (A1 : Int) ∧ IntKind.u64.wrap (A1 : Int) = (A2 : Int) ∧ IntKind.u64.wrap ((A2 : Int) + (u1 : Int)) = (A3 : Int) ∧ (Q1 : Int) * (Y : Int) = (A4 : Int) ∧ IntKind.u64.wrap (A4 : Int) = (A5 : Int) ∧ IntKind.u64.wrap ((A3 : Int) - (A5 : Int)) = (u21 : Int) := by
  refine ⟨u32 * 4294967296, u32 * 4294967296 % 18446744073709551616, (u32 * 4294967296 % 18446744073709551616 + u1) % 18446744073709551616, Q1 * Y, Q1 * Y % 18446744073709551616, by simp, by rw [wrap64]; simp, by rw [wrap64]; simp, by simp, by rw [wrap64]; simp, ?_⟩
  rw [wrap64]
  generalize Q1 * Y = a at *
  omega
theorem tail_two (Q1 Q0 u21 u0 Y P : Nat) (h1 : Q1 < 4294967296) (h0 : Q0 < 4294967296) : ∃ A1 A2 A3 A4 A5 A6 A7 : Nat, (u21 : Int) * 4294967296 = (A1 : Int) ∧ IntKind.u64.wrap (A1 : Int) = (A2 : Int) ∧ IntKind.u64.wrap ((A2 : Int) + (u0 : Int)) = (A3 : Int) ∧ (Q0 : Int) * (Y : Int) = (A4 : Int) ∧ IntKind.u64.wrap (A4 : Int) = (A5 : Int) ∧ IntKind.u64.wrap ((A3 : Int) - (A5 : Int)) = (A6 : Int) ∧ (A6 : Int) / (P : Int) = (A7 : Int) ∧ A6 < 18446744073709551616 ∧ A7 < 18446744073709551616 := by
  obtain ⟨A6, e6, l6⟩ : ∃ A6 : Nat, IntKind.u64.wrap ((((u21 * 4294967296 % 18446744073709551616 + u0) % 18446744073709551616 : Nat) : Int) - ((Q0 * Y % 18446744073709551616 : Nat) : Int)) = (A6 : Int) ∧ A6 < 18446744073709551616 := by
    refine ⟨(((((u21 * 4294967296 % 18446744073709551616 + u0) % 18446744073709551616 : Nat) : Int) - ((Q0 * Y % 18446744073709551616 : Nat) : Int)) % 18446744073709551616).toNat, ?_, ?_⟩
    · rw [wrap64]; omega
    · omega
  exact ⟨u21 * 4294967296, u21 * 4294967296 % 18446744073709551616, (u21 * 4294967296 % 18446744073709551616 + u0) % 18446744073709551616, Q0 * Y, Q0 * Y % 18446744073709551616, A6, A6 / P, by simp, by rw [wrap64]; simp, by rw [wrap64]; simp, by simp, by rw [wrap64]; simp, e6, by simp, l6, Nat.lt_of_le_of_lt (Nat.div_le_self _ _) l6⟩
theorem guess_facts (u y1 : Nat) (h : 0 < y1) (hu : u < 18446744073709551616) : ∃ G M r : Nat, (u : Int) / (y1 : Int) = (G : Int) ∧ (G : Int) * (y1 : Int) = (M : Int) ∧ (u : Int) - (M : Int) = (r : Int) ∧ M ≤ u ∧ u = G * y1 + r ∧ r < y1 ∧ u / y1 = G ∧ G < 18446744073709551616 ∧ M < 18446744073709551616 := by
  have dm := Nat.div_add_mod u y1
  have dl := Nat.mod_lt u h
  rw [Nat.mul_comm] at dm
  exact ⟨u / y1, u / y1 * y1, u % y1, by simp, by simp, by omega, by omega, dm.symm, dl, rfl, Nat.lt_of_le_of_lt (Nat.div_le_self _ _) hu, by omega⟩

set_option maxRecDepth 20000 in
theorem div_big (hi lo y : Nat) (w : World) (h0 : 0 < hi) (hlo : lo < 18446744073709551616) (hy : hi < y) (hy2 : y < 18446744073709551616) :
    Calls Tryd.prog 31 #[.int .u64 hi, .int .u64 lo, .int .u64 y] w fun e w' => ∃ r, e = .returned (.tuple #[.int .u64 ((hi * 18446744073709551616 + lo) / y : Nat), r]) ∧ ∃ q, w' = w.drewN q := by
  have y1' : ((y : Int) == 0) = false := beq_eq_false_iff_ne.2 (by omega)
  have y2' : decide ((y : Int) ≤ (hi : Int)) = false := decide_eq_false (by omega)
  have y2'' : decide (y ≤ hi) = false := decide_eq_false (by omega)
  have y3' : ¬ y = 0 := by omega
  have y4' : ((hi : Int) == 0) = false := beq_eq_false_iff_ne.2 (by omega)
  have y5' : ¬ hi = 0 := by omega
  have hi2 : hi < 18446744073709551616 := by omega
  have ZC := Lib.hid (zeros_any y w hy2)
  have PTS := Lib.hid (fun n s (hn : n + s = 64) (hL : IsLen y n) => parts_of hi lo y n s h0 hlo hy hy2 hn hL)
  obtain ⟨D, hD⟩ : ∃ D, D = (hi * 18446744073709551616 + lo) / y := ⟨_, rfl⟩
  rw [← hD]
  have HD := Lib.hid hD
  clear hD h0 hy
  go_enter Tryd.func31, Tryd.ntmps31
  go_wp2_with fail
  refine ZC.out.mono ?_
  rintro e w' ⟨n, s, rfl, hn, hL, rfl⟩
  obtain ⟨P, Y, y1, y0, hP, N, c, u32, z, u10, u1, u0, PS⟩ := PTS.out n s hn hL
  obtain ⟨f0, f1, f2, f3, f4, f5, f6, f7, f8, f9, fa, fb, fc, fd, fe, ff, fg, g1, g2, g3, g4, g5, g6, g7, g8, g9, ga, gb⟩ := PS
  obtain ⟨Q1, hQ1⟩ : ∃ q, q = (u32 * 4294967296 + u1) / Y := ⟨_, rfl⟩
  obtain ⟨u21, hu21⟩ : ∃ q, q = (u32 * 4294967296 + u1) % Y := ⟨_, rfl⟩
  obtain ⟨Q0, hQ0⟩ : ∃ q, q = (u21 * 4294967296 + u0) / Y := ⟨_, rfl⟩
  rw [← hQ1, ← hu21, ← hQ0] at gb
  have c21 : u21 < Y := by rw [hu21]; exact Nat.mod_lt _ (Nat.lt_of_le_of_lt (Nat.zero_le _) g4)
  have dm1 : u32 * 4294967296 + u1 = Q1 * Y + u21 := by rw [hQ1, hu21, Nat.mul_comm _ Y]; exact (Nat.div_add_mod _ _).symm
  obtain ⟨ST1', GO1', OU1', ge1, Q1l⟩ := digit3 u32 u1 y1 y0 Y Q1 4294967296 g1 hQ1 g5 g2 g3 g4
  obtain ⟨ST0', GO0', OU0', ge0, Q0l⟩ := digit3 u21 u0 y1 y0 Y Q0 4294967296 g1 hQ0 g6 g2 g3 c21
  have T1 := tail_one u32 u1 Q1 Y u21 dm1 (Nat.lt_trans c21 f4)
  have GU1 := guess_facts u32 y1 g2 (Nat.lt_trans g4 f4)
  have GU0 := guess_facts u21 y1 g2 (Nat.lt_trans c21 f4)
  have ST1 := Lib.hid ST1'
  have GO1 := Lib.hid GO1'
  have OU1 := Lib.hid OU1'
  have ST0 := Lib.hid ST0'
  have GO0 := Lib.hid GO0'
  have OU0 := Lib.hid OU0'
  have GB := Lib.hid (show D = Q1 * 4294967296 + Q0 from HD.out.trans gb)
  have T2 := tail_two Q1 Q0 u21 u0 Y P Q1l Q0l
  have HT1 := Lib.hid T1
  have HT2 := Lib.hid T2
  have HG1 := Lib.hid GU1
  have HG0 := Lib.hid GU0
  have HE1 := Lib.hid ge1
  have HE0 := Lib.hid ge0
  have q5' : ¬ y1 = 0 := Nat.pos_iff_ne_zero.1 g2
  have u32l : u32 < 18446744073709551616 := Nat.lt_trans g4 f4
  have u21l : u21 < 18446744073709551616 := Nat.lt_trans c21 f4
  have Q1i : (Q1 : Int) * 4294967296 + (Q0 : Int) < 18446744073709551616 := two_lt Q1 Q0 Q1l Q0l
  have Y1l : y1 < 4294967296 := g7
  have y0l : y0 < 4294967296 := g3
  clear ST1' GO1' OU1' ST0' GO0' OU0' hQ1 hu21 hQ0 gb T1 T2 GU1 GU0 ge1 ge0 dm1 hL hn ZC PTS HD c21 g1 g4
  obtain ⟨G, M, r1, k1, k2, k3, k4, k5, k6, k7, k8, k9⟩ := HG1.out
  have r1l : r1 < 18446744073709551616 := Nat.lt_trans k6 (Nat.lt_trans Y1l (by decide))
  have K5 := Lib.hid k5
  have K6 := Lib.hid (Nat.lt_trans k6 Y1l)
  have K7 := Lib.hid (k7 ▸ HE1.out)
  clear k5 k6 k7
  go_wp2_with fail
  go_loopw [15, 16] (fun qv rv wr => ∃ q r : Nat, qv = .int .u64 q ∧ rv = .int .u64 r ∧ u32 = q * y1 + r ∧ Q1 ≤ q ∧ q < 18446744073709551616 ∧ r < 4294967296 ∧ w' = wr) (fun qv _ _ => (intOf qv).toNat)
  case atStart => exact ⟨G, r1, rfl, rfl, K5.out, K7.out, k8, K6.out, rfl⟩
  case round =>
    obtain ⟨q, r, rfl, rfl, hr, hq, hq64, hrl, rfl⟩ := hrel
    have HR := Lib.hid hr
    have HQ := Lib.hid hq
    clear hr hq
    by_cases hB : 4294967296 ≤ q
    · have dq : decide ((4294967296 : Int) ≤ (q : Int)) = true := decide_eq_true (by omega)
      have dq' : decide (4294967296 ≤ q) = true := decide_eq_true hB
      obtain ⟨gl, gp⟩ := GO1.out q r HR.out HQ.out (.inl hB)
      obtain ⟨r', hr'⟩ : ∃ r', r' = r + y1 := ⟨_, rfl⟩
      have rr : (r : Int) + (y1 : Int) = (r' : Int) := by omega
      have r'l : r' < 18446744073709551616 := by omega
      have qg : 1 ≤ q := gp
      by_cases hz : 4294967296 ≤ r'
      · have eq : q - 1 = Q1 := by
          rcases Nat.lt_or_ge Q1 (q - 1) with h | h
          · exact absurd (OU1.out (q - 1) r' (by rw [HR.out, hr']; exact down_one q r y1 qg) (Nat.le_of_lt h) hz) (by omega)
          · omega
        have qi : (q : Int) - 1 = (Q1 : Int) := by omega
        have dr : decide ((4294967296 : Int) ≤ (r' : Int)) = true := decide_eq_true (by omega)
        have dr' : decide (4294967296 ≤ r') = true := decide_eq_true hz
        clear hB eq hz hr' gl gp
        obtain ⟨A1, A2, A3, A4, A5, t1, t2, t3, t4, t5, t6⟩ := HT1.out
        clear k1 k2 k3 k4 k8 k9 K5 K6 K7
        obtain ⟨G, M, r1, k1, k2, k3, k4, k5, k6, k7, k8, k9⟩ := HG0.out
        have r1l : r1 < 18446744073709551616 := Nat.lt_trans k6 (Nat.lt_trans Y1l (by decide))
        have K5 := Lib.hid k5
        have K6 := Lib.hid (Nat.lt_trans k6 Y1l)
        have K7 := Lib.hid (k7 ▸ HE0.out)
        clear k5 k6 k7
        go_wp2_with fail
        go_loopw [18, 16] (fun qv rv wr => ∃ q r : Nat, qv = .int .u64 q ∧ rv = .int .u64 r ∧ u21 = q * y1 + r ∧ Q0 ≤ q ∧ q < 18446744073709551616 ∧ r < 4294967296 ∧ w' = wr) (fun qv _ _ => (intOf qv).toNat)
        case atStart => exact ⟨G, r1, rfl, rfl, K5.out, K7.out, k8, K6.out, rfl⟩
        case round =>
          obtain ⟨q, r, rfl, rfl, hr, hq, hq64, hrl, rfl⟩ := hrel
          have HR := Lib.hid hr
          have HQ := Lib.hid hq
          clear hr hq
          by_cases hB : 4294967296 ≤ q
          · have dq : decide ((4294967296 : Int) ≤ (q : Int)) = true := decide_eq_true (by omega)
            have dq' : decide (4294967296 ≤ q) = true := decide_eq_true hB
            obtain ⟨gl, gp⟩ := GO0.out q r HR.out HQ.out (.inl hB)
            obtain ⟨r', hr'⟩ : ∃ r', r' = r + y1 := ⟨_, rfl⟩
            have rr : (r : Int) + (y1 : Int) = (r' : Int) := by omega
            have r'l : r' < 18446744073709551616 := by omega
            have qg : 1 ≤ q := gp
            by_cases hz : 4294967296 ≤ r'
            · have eq : q - 1 = Q0 := by
                rcases Nat.lt_or_ge Q0 (q - 1) with h | h
                · exact absurd (OU0.out (q - 1) r' (by rw [HR.out, hr']; exact down_one q r y1 qg) (Nat.le_of_lt h) hz) (by omega)
                · omega
              have qi : (q : Int) - 1 = (Q0 : Int) := by omega
              have dr : decide ((4294967296 : Int) ≤ (r' : Int)) = true := decide_eq_true (by omega)
              have dr' : decide (4294967296 ≤ r') = true := decide_eq_true hz
              clear hB eq hz hr' gl gp
              obtain ⟨E1, E2, E3, E4, E5, E6, E7, e1, e2, e3, e4, e5, e6, e7, e8, e9⟩ := HT2.out
              go_wp2_with fail
              go_ret2
              exact ⟨_, by rw [GB.out]; rfl, 0, rfl⟩
            · obtain ⟨q', hq'⟩ : ∃ q', q' = q - 1 := ⟨_, rfl⟩
              have qi : (q : Int) - 1 = (q' : Int) := by omega
              have dr : decide ((4294967296 : Int) ≤ (r' : Int)) = false := decide_eq_false (by omega)
              have dr' : decide (4294967296 ≤ r') = false := decide_eq_false hz
              have HREL := Lib.hid (show u21 = q' * y1 + r' ∧ Q0 ≤ q' ∧ q' < 18446744073709551616 ∧ r' < 4294967296 ∧ q' < q from ⟨by rw [HR.out, hr', hq']; exact down_one q r y1 qg, by rw [hq']; exact gl, by omega, by omega, by omega⟩)
              clear hB gl gp hz hr' hq'
              go_wp2_with fail
              go_roundw
              case rel => exact ⟨q', r', rfl, rfl, HREL.out.1, HREL.out.2.1, HREL.out.2.2.1, HREL.out.2.2.2.1, by first | trivial | rfl⟩
              case measure => have := HREL.out.2.2.2.2; simp [intOf] <;> omega
          · have dq : decide ((4294967296 : Int) ≤ (q : Int)) = false := decide_eq_false (by omega)
            have dq' : decide (4294967296 ≤ q) = false := decide_eq_false hB
            obtain ⟨a, ha⟩ : ∃ a, a = q * y0 := ⟨_, rfl⟩
            have a1 : (q : Int) * (y0 : Int) = (a : Int) := by rw [ha]; simp
            have al : a < 18446744073709551616 := by rw [ha]; exact mul_lt64 q y0 (by omega) y0l
            obtain ⟨br, hbr⟩ : ∃ b, b = 4294967296 * r := ⟨_, rfl⟩
            have b1 : 4294967296 * (r : Int) = (br : Int) := by omega
            obtain ⟨b, hb⟩ : ∃ b, b = br + u0 := ⟨_, rfl⟩
            have b2 : (br : Int) + (u0 : Int) = (b : Int) := by omega
            have brl : br < 18446744073709551616 := by omega
            have bl : b < 18446744073709551616 := by omega
            by_cases hC : b < a
            · have dc : decide ((b : Int) < (a : Int)) = true := decide_eq_true (by omega)
              have dc' : decide (b < a) = true := decide_eq_true hC
              obtain ⟨gl, gp⟩ := GO0.out q r HR.out HQ.out (.inr (by rw [← ha, ← hbr, ← hb]; exact hC))
              obtain ⟨r', hr'⟩ : ∃ r', r' = r + y1 := ⟨_, rfl⟩
              have rr : (r : Int) + (y1 : Int) = (r' : Int) := by omega
              have r'l : r' < 18446744073709551616 := by omega
              have qg : 1 ≤ q := gp
              by_cases hz : 4294967296 ≤ r'
              · have eq : q - 1 = Q0 := by
                  rcases Nat.lt_or_ge Q0 (q - 1) with h | h
                  · exact absurd (OU0.out (q - 1) r' (by rw [HR.out, hr']; exact down_one q r y1 qg) (Nat.le_of_lt h) hz) (by omega)
                  · omega
                have qi : (q : Int) - 1 = (Q0 : Int) := by omega
                have dr : decide ((4294967296 : Int) ≤ (r' : Int)) = true := decide_eq_true (by omega)
                have dr' : decide (4294967296 ≤ r') = true := decide_eq_true hz
                clear hB hC ha hbr hb eq hz hr' gl gp
                obtain ⟨E1, E2, E3, E4, E5, E6, E7, e1, e2, e3, e4, e5, e6, e7, e8, e9⟩ := HT2.out
                go_wp2_with fail
                go_ret2
                exact ⟨_, by rw [GB.out]; rfl, 0, rfl⟩
              · obtain ⟨q', hq'⟩ : ∃ q', q' = q - 1 := ⟨_, rfl⟩
                have qi : (q : Int) - 1 = (q' : Int) := by omega
                have dr : decide ((4294967296 : Int) ≤ (r' : Int)) = false := decide_eq_false (by omega)
                have dr' : decide (4294967296 ≤ r') = false := decide_eq_false hz
                have HREL := Lib.hid (show u21 = q' * y1 + r' ∧ Q0 ≤ q' ∧ q' < 18446744073709551616 ∧ r' < 4294967296 ∧ q' < q from ⟨by rw [HR.out, hr', hq']; exact down_one q r y1 qg, by rw [hq']; exact gl, by omega, by omega, by omega⟩)
                clear hB hC ha hbr hb gl gp hz hr' hq'
                go_wp2_with fail
                go_roundw
                case rel => exact ⟨q', r', rfl, rfl, HREL.out.1, HREL.out.2.1, HREL.out.2.2.1, HREL.out.2.2.2.1, by first | trivial | rfl⟩
                case measure => have := HREL.out.2.2.2.2; simp [intOf] <;> omega
            · have dc : decide ((b : Int) < (a : Int)) = false := decide_eq_false (by omega)
              have dc' : decide (b < a) = false := decide_eq_false hC
              have eq := ST0.out q r HR.out HQ.out (by rw [← ha, ← hbr, ← hb]; omega)
              clear ha hbr hb hC hB HQ
              subst eq
              obtain ⟨E1, E2, E3, E4, E5, E6, E7, e1, e2, e3, e4, e5, e6, e7, e8, e9⟩ := HT2.out
              go_wp2_with fail
              go_ret2
              exact ⟨_, by rw [GB.out]; rfl, 0, rfl⟩
      · obtain ⟨q', hq'⟩ : ∃ q', q' = q - 1 := ⟨_, rfl⟩
        have qi : (q : Int) - 1 = (q' : Int) := by omega
        have dr : decide ((4294967296 : Int) ≤ (r' : Int)) = false := decide_eq_false (by omega)
        have dr' : decide (4294967296 ≤ r') = false := decide_eq_false hz
        have HREL := Lib.hid (show u32 = q' * y1 + r' ∧ Q1 ≤ q' ∧ q' < 18446744073709551616 ∧ r' < 4294967296 ∧ q' < q from ⟨by rw [HR.out, hr', hq']; exact down_one q r y1 qg, by rw [hq']; exact gl, by omega, by omega, by omega⟩)
        clear hB gl gp hz hr' hq'
        go_wp2_with fail
        go_roundw
        case rel => exact ⟨q', r', rfl, rfl, HREL.out.1, HREL.out.2.1, HREL.out.2.2.1, HREL.out.2.2.2.1, by first | trivial | rfl⟩
        case measure => have := HREL.out.2.2.2.2; simp [intOf] <;> omega
    · have dq : decide ((4294967296 : Int) ≤ (q : Int)) = false := decide_eq_false (by omega)
      have dq' : decide (4294967296 ≤ q) = false := decide_eq_false hB
      obtain ⟨a, ha⟩ : ∃ a, a = q * y0 := ⟨_, rfl⟩
      have a1 : (q : Int) * (y0 : Int) = (a : Int) := by rw [ha]; simp
      have al : a < 18446744073709551616 := by rw [ha]; exact mul_lt64 q y0 (by omega) y0l
      obtain ⟨br, hbr⟩ : ∃ b, b = 4294967296 * r := ⟨_, rfl⟩
      have b1 : 4294967296 * (r : Int) = (br : Int) := by omega
      obtain ⟨b, hb⟩ : ∃ b, b = br + u1 := ⟨_, rfl⟩
      have b2 : (br : Int) + (u1 : Int) = (b : Int) := by omega
      have brl : br < 18446744073709551616 := by omega
      have bl : b < 18446744073709551616 := by omega
      by_cases hC : b < a
      · have dc : decide ((b : Int) < (a : Int)) = true := decide_eq_true (by omega)
        have dc' : decide (b < a) = true := decide_eq_true hC
        obtain ⟨gl, gp⟩ := GO1.out q r HR.out HQ.out (.inr (by rw [← ha, ← hbr, ← hb]; exact hC))
        obtain ⟨r', hr'⟩ : ∃ r', r' = r + y1 := ⟨_, rfl⟩
        have rr : (r : Int) + (y1 : Int) = (r' : Int) := by omega
        have r'l : r' < 18446744073709551616 := by omega
        have qg : 1 ≤ q := gp
        by_cases hz : 4294967296 ≤ r'
        · have eq : q - 1 = Q1 := by
            rcases Nat.lt_or_ge Q1 (q - 1) with h | h
            · exact absurd (OU1.out (q - 1) r' (by rw [HR.out, hr']; exact down_one q r y1 qg) (Nat.le_of_lt h) hz) (by omega)
            · omega
          have qi : (q : Int) - 1 = (Q1 : Int) := by omega
          have dr : decide ((4294967296 : Int) ≤ (r' : Int)) = true := decide_eq_true (by omega)
          have dr' : decide (4294967296 ≤ r') = true := decide_eq_true hz
          clear hB hC ha hbr hb eq hz hr' gl gp
          obtain ⟨A1, A2, A3, A4, A5, t1, t2, t3, t4, t5, t6⟩ := HT1.out
          clear k1 k2 k3 k4 k8 k9 K5 K6 K7
          obtain ⟨G, M, r1, k1, k2, k3, k4, k5, k6, k7, k8, k9⟩ := HG0.out
          have r1l : r1 < 18446744073709551616 := Nat.lt_trans k6 (Nat.lt_trans Y1l (by decide))
          have K5 := Lib.hid k5
          have K6 := Lib.hid (Nat.lt_trans k6 Y1l)
          have K7 := Lib.hid (k7 ▸ HE0.out)
          clear k5 k6 k7
          go_wp2_with fail
          go_loopw [18, 16] (fun qv rv wr => ∃ q r : Nat, qv = .int .u64 q ∧ rv = .int .u64 r ∧ u21 = q * y1 + r ∧ Q0 ≤ q ∧ q < 18446744073709551616 ∧ r < 4294967296 ∧ w' = wr) (fun qv _ _ => (intOf qv).toNat)
          case atStart => exact ⟨G, r1, rfl, rfl, K5.out, K7.out, k8, K6.out, rfl⟩
          case round =>
            obtain ⟨q, r, rfl, rfl, hr, hq, hq64, hrl, rfl⟩ := hrel
            have HR := Lib.hid hr
            have HQ := Lib.hid hq
            clear hr hq
            by_cases hB : 4294967296 ≤ q
            · have dq : decide ((4294967296 : Int) ≤ (q : Int)) = true := decide_eq_true (by omega)
              have dq' : decide (4294967296 ≤ q) = true := decide_eq_true hB
              obtain ⟨gl, gp⟩ := GO0.out q r HR.out HQ.out (.inl hB)
              obtain ⟨r', hr'⟩ : ∃ r', r' = r + y1 := ⟨_, rfl⟩
              have rr : (r : Int) + (y1 : Int) = (r' : Int) := by omega
              have r'l : r' < 18446744073709551616 := by omega
              have qg : 1 ≤ q := gp
              by_cases hz : 4294967296 ≤ r'
              · have eq : q - 1 = Q0 := by
                  rcases Nat.lt_or_ge Q0 (q - 1) with h | h
                  · exact absurd (OU0.out (q - 1) r' (by rw [HR.out, hr']; exact down_one q r y1 qg) (Nat.le_of_lt h) hz) (by omega)
                  · omega
                have qi : (q : Int) - 1 = (Q0 : Int) := by omega
                have dr : decide ((4294967296 : Int) ≤ (r' : Int)) = true := decide_eq_true (by omega)
                have dr' : decide (4294967296 ≤ r') = true := decide_eq_true hz
                clear hB eq hz hr' gl gp
                obtain ⟨E1, E2, E3, E4, E5, E6, E7, e1, e2, e3, e4, e5, e6, e7, e8, e9⟩ := HT2.out
                go_wp2_with fail
                go_ret2
                exact ⟨_, by rw [GB.out]; rfl, 0, rfl⟩
              · obtain ⟨q', hq'⟩ : ∃ q', q' = q - 1 := ⟨_, rfl⟩
                have qi : (q : Int) - 1 = (q' : Int) := by omega
                have dr : decide ((4294967296 : Int) ≤ (r' : Int)) = false := decide_eq_false (by omega)
                have dr' : decide (4294967296 ≤ r') = false := decide_eq_false hz
                have HREL := Lib.hid (show u21 = q' * y1 + r' ∧ Q0 ≤ q' ∧ q' < 18446744073709551616 ∧ r' < 4294967296 ∧ q' < q from ⟨by rw [HR.out, hr', hq']; exact down_one q r y1 qg, by rw [hq']; exact gl, by omega, by omega, by omega⟩)
                clear hB gl gp hz hr' hq'
                go_wp2_with fail
                go_roundw
                case rel => exact ⟨q', r', rfl, rfl, HREL.out.1, HREL.out.2.1, HREL.out.2.2.1, HREL.out.2.2.2.1, by first | trivial | rfl⟩
                case measure => have := HREL.out.2.2.2.2; simp [intOf] <;> omega
            · have dq : decide ((4294967296 : Int) ≤ (q : Int)) = false := decide_eq_false (by omega)
              have dq' : decide (4294967296 ≤ q) = false := decide_eq_false hB
              obtain ⟨a, ha⟩ : ∃ a, a = q * y0 := ⟨_, rfl⟩
              have a1 : (q : Int) * (y0 : Int) = (a : Int) := by rw [ha]; simp
              have al : a < 18446744073709551616 := by rw [ha]; exact mul_lt64 q y0 (by omega) y0l
              obtain ⟨br, hbr⟩ : ∃ b, b = 4294967296 * r := ⟨_, rfl⟩
              have b1 : 4294967296 * (r : Int) = (br : Int) := by omega
              obtain ⟨b, hb⟩ : ∃ b, b = br + u0 := ⟨_, rfl⟩
              have b2 : (br : Int) + (u0 : Int) = (b : Int) := by omega
              have brl : br < 18446744073709551616 := by omega
              have bl : b < 18446744073709551616 := by omega
              by_cases hC : b < a
              · have dc : decide ((b : Int) < (a : Int)) = true := decide_eq_true (by omega)
                have dc' : decide (b < a) = true := decide_eq_true hC
                obtain ⟨gl, gp⟩ := GO0.out q r HR.out HQ.out (.inr (by rw [← ha, ← hbr, ← hb]; exact hC))
                obtain ⟨r', hr'⟩ : ∃ r', r' = r + y1 := ⟨_, rfl⟩
                have rr : (r : Int) + (y1 : Int) = (r' : Int) := by omega
                have r'l : r' < 18446744073709551616 := by omega
                have qg : 1 ≤ q := gp
                by_cases hz : 4294967296 ≤ r'
                · have eq : q - 1 = Q0 := by
                    rcases Nat.lt_or_ge Q0 (q - 1) with h | h
                    · exact absurd (OU0.out (q - 1) r' (by rw [HR.out, hr']; exact down_one q r y1 qg) (Nat.le_of_lt h) hz) (by omega)
                    · omega
                  have qi : (q : Int) - 1 = (Q0 : Int) := by omega
                  have dr : decide ((4294967296 : Int) ≤ (r' : Int)) = true := decide_eq_true (by omega)
                  have dr' : decide (4294967296 ≤ r') = true := decide_eq_true hz
                  clear hB hC ha hbr hb eq hz hr' gl gp
                  obtain ⟨E1, E2, E3, E4, E5, E6, E7, e1, e2, e3, e4, e5, e6, e7, e8, e9⟩ := HT2.out
                  go_wp2_with fail
                  go_ret2
                  exact ⟨_, by rw [GB.out]; rfl, 0, rfl⟩
                · obtain ⟨q', hq'⟩ : ∃ q', q' = q - 1 := ⟨_, rfl⟩
                  have qi : (q : Int) - 1 = (q' : Int) := by omega
                  have dr : decide ((4294967296 : Int) ≤ (r' : Int)) = false := decide_eq_false (by omega)
                  have dr' : decide (4294967296 ≤ r') = false := decide_eq_false hz
                  have HREL := Lib.hid (show u21 = q' * y1 + r' ∧ Q0 ≤ q' ∧ q' < 18446744073709551616 ∧ r' < 4294967296 ∧ q' < q from ⟨by rw [HR.out, hr', hq']; exact down_one q r y1 qg, by rw [hq']; exact gl, by omega, by omega, by omega⟩)
                  clear hB hC ha hbr hb gl gp hz hr' hq'
                  go_wp2_with fail
                  go_roundw
                  case rel => exact ⟨q', r', rfl, rfl, HREL.out.1, HREL.out.2.1, HREL.out.2.2.1, HREL.out.2.2.2.1, by first | trivial | rfl⟩
                  case measure => have := HREL.out.2.2.2.2; simp [intOf] <;> omega
              · have dc : decide ((b : Int) < (a : Int)) = false := decide_eq_false (by omega)
                have dc' : decide (b < a) = false := decide_eq_false hC
                have eq := ST0.out q r HR.out HQ.out (by rw [← ha, ← hbr, ← hb]; omega)
                clear ha hbr hb hC hB HQ
                subst eq
                obtain ⟨E1, E2, E3, E4, E5, E6, E7, e1, e2, e3, e4, e5, e6, e7, e8, e9⟩ := HT2.out
                go_wp2_with fail
                go_ret2
                exact ⟨_, by rw [GB.out]; rfl, 0, rfl⟩
        · obtain ⟨q', hq'⟩ : ∃ q', q' = q - 1 := ⟨_, rfl⟩
          have qi : (q : Int) - 1 = (q' : Int) := by omega
          have dr : decide ((4294967296 : Int) ≤ (r' : Int)) = false := decide_eq_false (by omega)
          have dr' : decide (4294967296 ≤ r') = false := decide_eq_false hz
          have HREL := Lib.hid (show u32 = q' * y1 + r' ∧ Q1 ≤ q' ∧ q' < 18446744073709551616 ∧ r' < 4294967296 ∧ q' < q from ⟨by rw [HR.out, hr', hq']; exact down_one q r y1 qg, by rw [hq']; exact gl, by omega, by omega, by omega⟩)
          clear hB hC ha hbr hb gl gp hz hr' hq'
          go_wp2_with fail
          go_roundw
          case rel => exact ⟨q', r', rfl, rfl, HREL.out.1, HREL.out.2.1, HREL.out.2.2.1, HREL.out.2.2.2.1, by first | trivial | rfl⟩
          case measure => have := HREL.out.2.2.2.2; simp [intOf] <;> omega
      · have dc : decide ((b : Int) < (a : Int)) = false := decide_eq_false (by omega)
        have dc' : decide (b < a) = false := decide_eq_false hC
        have eq := ST1.out q r HR.out HQ.out (by rw [← ha, ← hbr, ← hb]; omega)
        clear ha hbr hb hC hB HQ
        subst eq
        obtain ⟨A1, A2, A3, A4, A5, t1, t2, t3, t4, t5, t6⟩ := HT1.out
        clear k1 k2 k3 k4 k8 k9 K5 K6 K7
        obtain ⟨G, M, r1, k1, k2, k3, k4, k5, k6, k7, k8, k9⟩ := HG0.out
        have r1l : r1 < 18446744073709551616 := Nat.lt_trans k6 (Nat.lt_trans Y1l (by decide))
        have K5 := Lib.hid k5
        have K6 := Lib.hid (Nat.lt_trans k6 Y1l)
        have K7 := Lib.hid (k7 ▸ HE0.out)
        clear k5 k6 k7
        go_wp2_with fail
        go_loopw [18, 16] (fun qv rv wr => ∃ q r : Nat, qv = .int .u64 q ∧ rv = .int .u64 r ∧ u21 = q * y1 + r ∧ Q0 ≤ q ∧ q < 18446744073709551616 ∧ r < 4294967296 ∧ w' = wr) (fun qv _ _ => (intOf qv).toNat)
        case atStart => exact ⟨G, r1, rfl, rfl, K5.out, K7.out, k8, K6.out, rfl⟩
        case round =>
          obtain ⟨q, r, rfl, rfl, hr, hq, hq64, hrl, rfl⟩ := hrel
          have HR := Lib.hid hr
          have HQ := Lib.hid hq
          clear hr hq
          by_cases hB : 4294967296 ≤ q
          · have dq : decide ((4294967296 : Int) ≤ (q : Int)) = true := decide_eq_true (by omega)
            have dq' : decide (4294967296 ≤ q) = true := decide_eq_true hB
            obtain ⟨gl, gp⟩ := GO0.out q r HR.out HQ.out (.inl hB)
            obtain ⟨r', hr'⟩ : ∃ r', r' = r + y1 := ⟨_, rfl⟩
            have rr : (r : Int) + (y1 : Int) = (r' : Int) := by omega
            have r'l : r' < 18446744073709551616 := by omega
            have qg : 1 ≤ q := gp
            by_cases hz : 4294967296 ≤ r'
            · have eq : q - 1 = Q0 := by
                rcases Nat.lt_or_ge Q0 (q - 1) with h | h
                · exact absurd (OU0.out (q - 1) r' (by rw [HR.out, hr']; exact down_one q r y1 qg) (Nat.le_of_lt h) hz) (by omega)
                · omega
              have qi : (q : Int) - 1 = (Q0 : Int) := by omega
              have dr : decide ((4294967296 : Int) ≤ (r' : Int)) = true := decide_eq_true (by omega)
              have dr' : decide (4294967296 ≤ r') = true := decide_eq_true hz
              clear hB eq hz hr' gl gp
              obtain ⟨E1, E2, E3, E4, E5, E6, E7, e1, e2, e3, e4, e5, e6, e7, e8, e9⟩ := HT2.out
              go_wp2_with fail
              go_ret2
              exact ⟨_, by rw [GB.out]; rfl, 0, rfl⟩
            · obtain ⟨q', hq'⟩ : ∃ q', q' = q - 1 := ⟨_, rfl⟩
              have qi : (q : Int) - 1 = (q' : Int) := by omega
              have dr : decide ((4294967296 : Int) ≤ (r' : Int)) = false := decide_eq_false (by omega)
              have dr' : decide (4294967296 ≤ r') = false := decide_eq_false hz
              have HREL := Lib.hid (show u21 = q' * y1 + r' ∧ Q0 ≤ q' ∧ q' < 18446744073709551616 ∧ r' < 4294967296 ∧ q' < q from ⟨by rw [HR.out, hr', hq']; exact down_one q r y1 qg, by rw [hq']; exact gl, by omega, by omega, by omega⟩)
              clear hB gl gp hz hr' hq'
              go_wp2_with fail
              go_roundw
              case rel => exact ⟨q', r', rfl, rfl, HREL.out.1, HREL.out.2.1, HREL.out.2.2.1, HREL.out.2.2.2.1, by first | trivial | rfl⟩
              case measure => have := HREL.out.2.2.2.2; simp [intOf] <;> omega
          · have dq : decide ((4294967296 : Int) ≤ (q : Int)) = false := decide_eq_false (by omega)
            have dq' : decide (4294967296 ≤ q) = false := decide_eq_false hB
            obtain ⟨a, ha⟩ : ∃ a, a = q * y0 := ⟨_, rfl⟩
            have a1 : (q : Int) * (y0 : Int) = (a : Int) := by rw [ha]; simp
            have al : a < 18446744073709551616 := by rw [ha]; exact mul_lt64 q y0 (by omega) y0l
            obtain ⟨br, hbr⟩ : ∃ b, b = 4294967296 * r := ⟨_, rfl⟩
            have b1 : 4294967296 * (r : Int) = (br : Int) := by omega
            obtain ⟨b, hb⟩ : ∃ b, b = br + u0 := ⟨_, rfl⟩
            have b2 : (br : Int) + (u0 : Int) = (b : Int) := by omega
            have brl : br < 18446744073709551616 := by omega
            have bl : b < 18446744073709551616 := by omega
            by_cases hC : b < a
            · have dc : decide ((b : Int) < (a : Int)) = true := decide_eq_true (by omega)
              have dc' : decide (b < a) = true := decide_eq_true hC
              obtain ⟨gl, gp⟩ := GO0.out q r HR.out HQ.out (.inr (by rw [← ha, ← hbr, ← hb]; exact hC))
              obtain ⟨r', hr'⟩ : ∃ r', r' = r + y1 := ⟨_, rfl⟩
              have rr : (r : Int) + (y1 : Int) = (r' : Int) := by omega
              have r'l : r' < 18446744073709551616 := by omega
              have qg : 1 ≤ q := gp
              by_cases hz : 4294967296 ≤ r'
              · have eq : q - 1 = Q0 := by
                  rcases Nat.lt_or_ge Q0 (q - 1) with h | h
                  · exact absurd (OU0.out (q - 1) r' (by rw [HR.out, hr']; exact down_one q r y1 qg) (Nat.le_of_lt h) hz) (by omega)
                  · omega
                have qi : (q : Int) - 1 = (Q0 : Int) := by omega
                have dr : decide ((4294967296 : Int) ≤ (r' : Int)) = true := decide_eq_true (by omega)
                have dr' : decide (4294967296 ≤ r') = true := decide_eq_true hz
                clear hB hC ha hbr hb eq hz hr' gl gp
                obtain ⟨E1, E2, E3, E4, E5, E6, E7, e1, e2, e3, e4, e5, e6, e7, e8, e9⟩ := HT2.out
                go_wp2_with fail
                go_ret2
                exact ⟨_, by rw [GB.out]; rfl, 0, rfl⟩
              · obtain ⟨q', hq'⟩ : ∃ q', q' = q - 1 := ⟨_, rfl⟩
                have qi : (q : Int) - 1 = (q' : Int) := by omega
                have dr : decide ((4294967296 : Int) ≤ (r' : Int)) = false := decide_eq_false (by omega)
                have dr' : decide (4294967296 ≤ r') = false := decide_eq_false hz
                have HREL := Lib.hid (show u21 = q' * y1 + r' ∧ Q0 ≤ q' ∧ q' < 18446744073709551616 ∧ r' < 4294967296 ∧ q' < q from ⟨by rw [HR.out, hr', hq']; exact down_one q r y1 qg, by rw [hq']; exact gl, by omega, by omega, by omega⟩)
                clear hB hC ha hbr hb gl gp hz hr' hq'
                go_wp2_with fail
                go_roundw
                case rel => exact ⟨q', r', rfl, rfl, HREL.out.1, HREL.out.2.1, HREL.out.2.2.1, HREL.out.2.2.2.1, by first | trivial | rfl⟩
                case measure => have := HREL.out.2.2.2.2; simp [intOf] <;> omega
            · have dc : decide ((b : Int) < (a : Int)) = false := decide_eq_false (by omega)
              have dc' : decide (b < a) = false := decide_eq_false hC
              have eq := ST0.out q r HR.out HQ.out (by rw [← ha, ← hbr, ← hb]; omega)
              clear ha hbr hb hC hB HQ
              subst eq
              obtain ⟨E1, E2, E3, E4, E5, E6, E7, e1, e2, e3, e4, e5, e6, e7, e8, e9⟩ := HT2.out
              go_wp2_with fail
              go_ret2
              exact ⟨_, by rw [GB.out]; rfl, 0, rfl⟩
end Go.Proofs.YtnpkbjekodjcjaaDoor
