/- The walk of law 9: covers. -/
import Derived.Test.YtnpkbjekodjcjaaDoorWa
import Derived.Test.YtnpkbjekodjcjaaDoorRv
import Derived.Deep.Cut
import Derived.Deep.CutRange
set_option linter.all false
namespace Go.Proofs.YtnpkbjekodjcjaaDoor
open Go.RowKit Go.Fen Hil
set_option linter.unusedVariables false
set_option maxHeartbeats 4000000

/-- what Cover returns -/
noncomputable def covR (k : Int) (rc : Rect) : Rgs × Int := open Classical in if CovOk k rc then (cov k.toNat rc, 0) else ([], 1)
theorem cover_u (k : Int) (rc : Rect) (w : World) (hT : Tab w) : Calls Tryd.prog 22 #[.int .i64 k, rcv rc] w fun e w' => ∃ a c, e = .returned (.tuple #[.slice a (covR k rc).1.length c, .int .i64 (covR k rc).2]) ∧ RgsM w' a (covR k rc).1 ∧ Below w.heap.size w w' := by
  by_cases h : CovOk k rc
  · rw [covR, if_pos h]; exact cover_any k rc w h hT
  · rw [covR, if_neg h]; exact (cover_bad k rc w h).mono fun e w' ⟨h1, h2⟩ => ⟨none, 0, h1, .inl ⟨rfl, rfl⟩, h2⟩
theorem rcover_u (k : Int) (rc : Rect) (w : World) : Calls Tryd.prog 23 #[.int .i64 k, rcv rc] w fun e w' => ∃ a c, e = .returned (.tuple #[.slice a (covR k rc).1.length c, .int .i64 (covR k rc).2]) ∧ RgsM w' a (covR k rc).1 ∧ Below w.heap.size w w' := by
  by_cases h : CovOk k rc
  · rw [covR, if_pos h]; exact rcover_any k rc w h
  · rw [covR, if_neg h]; exact (rcover_bad k rc w h).mono fun e w' ⟨h1, h2⟩ => ⟨none, 0, h1, .inl ⟨rfl, rfl⟩, h2⟩
theorem length_covR (k : Nat) (hk : k ≤ 5) (rc : Rect) : (covR k rc).1.length ≤ 1000000 := by
  unfold covR
  split
  · have := length_scan (fun i => rc.has (pnt k i)) (4 ^ k)
    have h5 : 4 ^ k ≤ 4 ^ 5 := Nat.pow_le_pow_right (by decide) hk
    rw [Int.toNat_natCast]
    show (cov k rc).length ≤ 1000000
    rw [cov]
    omega
  · simp

def vc (K : List Nat) : Array Value := (K.map fun (x : Nat) => Value.int .u32 (x : Int)).toArray
theorem get_vc (K : List Nat) (i : Nat) (h : i < K.length) : (vc K)[i]? = some (.int .u32 (K.getD i 0)) := by simp [vc, List.getD, h]
theorem set_vc (K : List Nat) (i x : Nat) : (vc K).setIfInBounds i (.int .u32 (x : Int)) = vc (K.set i x) := by simp [vc, List.map_set]
theorem Tryd.z34 : (Tryd.prog.info? 34).bind (·.zero) = some (.agg #[.int .u32 0, .int .u32 0, .int .u32 0, .int .u32 0]) := by kernel_rfl
theorem one_four (a b c d : Int) : (#[Value.int .u32 a, .int .u32 b, .int .u32 c, .int .u32 d]).all (·.oneCell') = true := by simp [Value.oneCell']

set_option maxRecDepth 20000 in
theorem covers_walk (o p0 p1 p2 p3 u v : Nat) (w : World) (hT : Tab w) (ho : o < 256) (hp : p0 < 4294967296 ∧ p1 < 4294967296 ∧ p2 < 4294967296 ∧ p3 < 4294967296) (hq : u < 4294967296 ∧ v < 4294967296) :
    Calls Tryd.prog 9 #[.int .u8 o, .agg #[.int .u32 p0, .int .u32 p1, .int .u32 p2, .int .u32 p3], .agg #[.int .u32 u, .int .u32 v]] w fun e w' => e = .returned (.bool true) ∧ Below w.heap.size w w' := by
  obtain ⟨hp0, hp1, hp2, hp3⟩ := hp
  obtain ⟨hu, hv⟩ := hq
  obtain ⟨mo, hmo⟩ : ∃ m, m = o % 5 := ⟨_, rfl⟩
  obtain ⟨k, hk⟩ : ∃ k, k = 1 + mo := ⟨_, rfl⟩
  have m1 : (o : Int) % 5 = (mo : Int) := by omega
  have m2 : 1 + (mo : Int) = (k : Int) := by omega
  have k1 : 1 ≤ k := by omega
  have k5 : k ≤ 5 := by omega
  obtain ⟨s, hs⟩ : ∃ s, s = 2 ^ k := ⟨_, rfl⟩
  have s0 : 0 < s := by rw [hs]; exact two_pos k
  have s00 : ¬ s = 0 := by omega
  have s1 : s ≤ 65536 := by rw [hs]; exact pow_le16 k (by omega)
  have t1 : (2 : Int) ^ k = (s : Int) := by rw [hs]; exact int_two_pow k
  obtain ⟨x, hx⟩ : ∃ x, x = u % s := ⟨_, rfl⟩
  obtain ⟨y, hy⟩ : ∃ y, y = v % s := ⟨_, rfl⟩
  have x1 : (u : Int) % (s : Int) = (x : Int) := by rw [hx]; simp
  have y1 : (v : Int) % (s : Int) = (y : Int) := by rw [hy]; simp
  have xs : x < s := by rw [hx]; exact Nat.mod_lt _ s0
  have ys : y < s := by rw [hy]; exact Nat.mod_lt _ s0
  obtain ⟨P, hP⟩ : ∃ P : List Nat, P = [p0, p1, p2, p3] := ⟨_, rfl⟩
  have PB : Hid (∀ i, P.getD i 0 < 4294967296) := Lib.hid (fun i => by
    rw [hP]
    match i with
    | 0 => exact hp0
    | 1 => exact hp1
    | 2 => exact hp2
    | 3 => exact hp3
    | (j + 4) => simp)
  obtain ⟨f, hf⟩ : ∃ f : Nat → Nat, f = fun t => P.getD t 0 % s := ⟨_, rfl⟩
  have HF := Lib.hid (fun t => (congrFun hf t : f t = P.getD t 0 % s))
  obtain ⟨w0, hw0⟩ : ∃ x, x = p0 % s := ⟨_, rfl⟩
  obtain ⟨w1, hw1⟩ : ∃ x, x = p1 % s := ⟨_, rfl⟩
  obtain ⟨w2, hw2⟩ : ∃ x, x = p2 % s := ⟨_, rfl⟩
  obtain ⟨w3, hw3⟩ : ∃ x, x = p3 % s := ⟨_, rfl⟩
  have ws0 : w0 < s := by rw [hw0]; exact Nat.mod_lt _ s0
  have ws1 : w1 < s := by rw [hw1]; exact Nat.mod_lt _ s0
  have ws2 : w2 < s := by rw [hw2]; exact Nat.mod_lt _ s0
  have ws3 : w3 < s := by rw [hw3]; exact Nat.mod_lt _ s0
  have HALL := Lib.hid (show vc (fillN f 4 4) = #[.int .u32 w0, .int .u32 w1, .int .u32 w2, .int .u32 w3] by rw [fillN_all, hf, hP, hw0, hw1, hw2, hw3]; rfl)
  have HPC := Lib.hid (show (#[.int .u32 p0, .int .u32 p1, .int .u32 p2, .int .u32 p3] : Array Value) = vc P by rw [hP]; rfl)
  have HPL := Lib.hid (show P.length = 4 by rw [hP]; rfl)
  obtain ⟨g, eg⟩ : ∃ g, g = w.heap.size := ⟨_, rfl⟩
  obtain ⟨A0, hA0⟩ : ∃ W, W = w.alloc (.cells #[.int .u32 p0, .int .u32 p1, .int .u32 p2, .int .u32 p3] 34) := ⟨_, rfl⟩
  obtain ⟨A1, hA1⟩ : ∃ W, W = A0.alloc (.cells #[.int .u32 u, .int .u32 v] 23) := ⟨_, rfl⟩
  have z0 : A0.heap.size = g + 1 := by rw [hA0, eg]; simp
  have z1 : A1.heap.size = g + 1 + 1 := by rw [hA1, World.size_alloc, z0]
  have b1 : Below w.heap.size w A1 := by rw [hA1, hA0]; exact ((Below.refl _ _).alloc (Nat.le_refl _) _).alloc (by simp) _
  have r0 : Row A1 g 34 #[.int .u32 p0, .int .u32 p1, .int .u32 p2, .int .u32 p3] := by rw [hA1, hA0, eg]; exact (Row.new w 34 _).alloc _
  have r1 : Row A1 (g + 1) 23 #[.int .u32 u, .int .u32 v] := by rw [hA1]; exact Row.new' 23 _ z0.symm
  have ez : w.heap.size = g := eg.symm
  -- the lists
  have CU := Lib.hid (fun W (h : Below w.heap.size w W) => cover_u k ⟨w0, w1, w2, w3⟩ W (hT.below h (Nat.le_refl _)))
  have RU := Lib.hid (fun W => rcover_u k ⟨w0, w1, w2, w3⟩ W)
  have LL := Lib.hid (length_covR k k5 ⟨w0, w1, w2, w3⟩)
  obtain ⟨L1, hL1⟩ : ∃ L, L = (covR k ⟨w0, w1, w2, w3⟩).1 := ⟨_, rfl⟩
  obtain ⟨er, her⟩ : ∃ L, L = (covR k ⟨w0, w1, w2, w3⟩).2 := ⟨_, rfl⟩
  have CU1 := CU.out
  have RU1 := RU.out
  have LL1 := LL.out
  clear CU RU LL
  rw [← hL1, ← her] at CU1 RU1
  rw [← hL1] at LL1
  unfold rcv at CU1 RU1
  simp only at CU1 RU1
  have CU := Lib.hid CU1
  have RU := Lib.hid RU1
  have LL := Lib.hid LL1
  clear CU1 RU1 LL1 hL1 her
  -- the rectangle in order
  obtain ⟨m0, hm0⟩ : ∃ m, m = if w2 < w0 then w2 else w0 := ⟨_, rfl⟩
  obtain ⟨m1', hm1⟩ : ∃ m, m = if w3 < w1 then w3 else w1 := ⟨_, rfl⟩
  obtain ⟨m2', hm2⟩ : ∃ m, m = if w0 < w2 then w2 else w0 := ⟨_, rfl⟩
  obtain ⟨m3, hm3⟩ : ∃ m, m = if w1 < w3 then w3 else w1 := ⟨_, rfl⟩
  have ok : CovOk k ⟨m0, m1', m2', m3⟩ := by
    refine ⟨by omega, by omega, ?_, ?_, ?_, ?_⟩
    · show m0 ≤ m2'; rw [hm0, hm2]; split <;> split <;> omega
    · show m1' ≤ m3; rw [hm1, hm3]; split <;> split <;> omega
    · show m2' < 2 ^ (k : Int).toNat; rw [Int.toNat_natCast, ← hs, hm2]; split <;> omega
    · show m3 < 2 ^ (k : Int).toNat; rw [Int.toNat_natCast, ← hs, hm3]; split <;> omega
  have mb : m0 ≤ 65536 ∧ m1' ≤ 65536 ∧ m2' ≤ 65536 ∧ m3 ≤ 65536 := by
    refine ⟨?_, ?_, ?_, ?_⟩
    · rw [hm0]; split <;> omega
    · rw [hm1]; split <;> omega
    · rw [hm2]; split <;> omega
    · rw [hm3]; split <;> omega
  obtain ⟨mb0, mb1, mb2, mb3⟩ := mb
  have ei0 : (if (w2 : Int) < (w0 : Int) then (w2 : Int) else (w0 : Int)) = (m0 : Int) := by rw [hm0]; split <;> split <;> omega
  have ei1 : (if (w3 : Int) < (w1 : Int) then (w3 : Int) else (w1 : Int)) = (m1' : Int) := by rw [hm1]; split <;> split <;> omega
  have ei2 : (if (w0 : Int) < (w2 : Int) then (w2 : Int) else (w0 : Int)) = (m2' : Int) := by rw [hm2]; split <;> split <;> omega
  have ei3 : (if (w1 : Int) < (w3 : Int) then (w3 : Int) else (w1 : Int)) = (m3 : Int) := by rw [hm3]; split <;> split <;> omega
  have en0 : (if w2 < w0 then (w2 : Int) else (w0 : Int)) = (m0 : Int) := by rw [hm0]; split <;> rfl
  have en1 : (if w3 < w1 then (w3 : Int) else (w1 : Int)) = (m1' : Int) := by rw [hm1]; split <;> rfl
  have en2 : (if w0 < w2 then (w2 : Int) else (w0 : Int)) = (m2' : Int) := by rw [hm2]; split <;> rfl
  have en3 : (if w1 < w3 then (w3 : Int) else (w1 : Int)) = (m3 : Int) := by rw [hm3]; split <;> rfl
  obtain ⟨C, hC⟩ : ∃ C, C = cov k ⟨m0, m1', m2', m3⟩ := ⟨_, rfl⟩
  have CV1 := fun W (h : Below w.heap.size w W) => cover_any k ⟨m0, m1', m2', m3⟩ W ok (hT.below h (Nat.le_refl _))
  rw [Int.toNat_natCast, ← hC] at CV1
  unfold rcv at CV1
  simp only at CV1
  have CV := Lib.hid CV1
  have GD : Hil.Good (fun i => (⟨m0, m1', m2', m3⟩ : Rect).has (pnt k i)) (4 ^ k) C := by rw [hC]; exact cov_good k _
  have FD := cov_found k x y ⟨m0, m1', m2', m3⟩ (by rw [← hs]; exact xs) (by rw [← hs]; exact ys)
  rw [← hC] at FD
  have LC : C.length ≤ 1000000 := by
    have := length_scan (fun i => (⟨m0, m1', m2', m3⟩ : Rect).has (pnt k i)) (4 ^ k)
    have h5 : 4 ^ k ≤ 4 ^ 5 := Nat.pow_le_pow_right (by decide) k5
    rw [hC, cov]
    omega
  have f5 : 4 ^ k ≤ 1024 := Nat.le_trans (Nat.pow_le_pow_right (by decide) k5) (by decide)
  have CB := Lib.hid (fun j (hj : j < C.length) => And.intro (GD.1 j hj).1 (Nat.lt_of_lt_of_le (GD.1 j hj).2 f5))
  have CG := Lib.hid (GD.2.1)
  have IX := idx_lt k x y (by rw [← hs]; exact xs) (by rw [← hs]; exact ys)
  have RI0 := fun W => rIndex_any k x y W
  rw [show indexR k x y = (idx k x y, 0) by rw [indexR, if_neg (by rw [Int.toNat_natCast, ← hs]; omega), Int.toNat_natCast]] at RI0
  obtain ⟨ix, hix⟩ : ∃ i, i = idx k x y := ⟨_, rfl⟩
  rw [← hix] at FD IX RI0
  have ix6 : ix ≤ 1024 := by omega
  have IN0 := fun W => inside_any x y ⟨m0, m1', m2', m3⟩ W
  unfold rcv at IN0
  simp only at IN0
  obtain ⟨bi, hbi⟩ : ∃ b, b = (⟨m0, m1', m2', m3⟩ : Rect).has (x, y) := ⟨_, rfl⟩
  rw [← hbi] at FD IN0
  have RI := Lib.hid RI0
  have IN := Lib.hid IN0
  have HFD := Lib.hid FD
  have BAD0 := fun W (h : 16 < o) => cover_bad (o : Int) ⟨p0, p1, p2, p3⟩ W (fun h' => by have := h'.2.1; omega)
  unfold rcv at BAD0
  simp only at BAD0
  have BAD := Lib.hid BAD0
  have HLC := Lib.hid LC
  have HA0 := Lib.hid hA0
  have HA1 := Lib.hid hA1
  have EG := Lib.hid eg
  have HB1 := Lib.hid b1
  have HR0 := Lib.hid r0
  have HR1 := Lib.hid r1
  have HT := Lib.hid hT
  have Z0 := Lib.hid z0
  have Z1 := Lib.hid z1
  clear hmo hk hs hx hy hP hf hw0 hw1 hw2 hw3 hp0 hp1 hp2 hp3 hu hv eg hA0 hA1 b1 r0 r1 hT z0 z1 hm0 hm1 hm2 hm3 ok CV1 GD FD LC f5 IX RI0 hix IN0 hbi hC BAD0
  go_enter Tryd.func9, Tryd.ntmps9
  go_wp2_with (first | ((with_reducible show wpList _ _ _ (Oper.mk _ (Op.box _ _) _ _ _ _ :: _) _ _); (first | (refine wpList_box_row rfl 34 (.tmp 1) rfl _ rfl g EG.out ?_; refine wpList_atE HA0.out ?_) | (refine wpList_box_row rfl 23 (.tmp 2) rfl _ rfl (g + 1) Z0.out.symm ?_; refine wpList_atE HA1.out ?_))))
  refine (sanity_any _ (HT.out.below HB1.out (Nat.le_refl _))).mono ?_
  rintro e V1 ⟨rfl, b'⟩
  have HV1 := Lib.hid (bel_tr HB1.out b')
  have RP1 := Lib.hid (HR0.out.below b' HR0.out.lt)
  have RQ1 := Lib.hid (HR1.out.below b' HR1.out.lt)
  have ZV1 := Lib.hid (show g + 1 + 1 ≤ V1.heap.size by rw [← Z1.out]; exact b'.size)
  clear b'
  obtain ⟨g9, hg9⟩ : ∃ x, x = V1.heap.size := ⟨_, rfl⟩
  have HG9 := Lib.hid hg9
  obtain ⟨V2, hV2⟩ : ∃ W, W = V1.alloc (.cells #[.int .u32 0, .int .u32 0, .int .u32 0, .int .u32 0] 34) := ⟨_, rfl⟩
  have HV2 := Lib.hid hV2
  have R9 : Row V2 g9 34 (vc (fillN f 4 0)) := by
    rw [hV2, fillN_zero]
    exact Row.new' 34 _ hg9
  have HR9 := Lib.hid R9
  have BV2 := Lib.hid (show Below g9 V1 V2 by rw [hV2]; exact (Below.refl _ _).alloc (Nat.le_of_eq hg9) _)
  clear hg9 hV2 R9
  go_wp2_with (first | ((with_reducible show wpList _ _ _ (Oper.mk _ (Op.alloc _) _ _ _ _ :: _) _ _); (refine wpList_new_row rfl rfl 34 9 (.tmp 31) rfl rfl rfl rfl g9 HG9.out #[.int .u32 0, .int .u32 0, .int .u32 0, .int .u32 0] rfl rfl _ Tryd.z34 Tryd.n34 rfl (one_four _ _ _ _) ?_; refine wpList_atE HV2.out ?_)))
  go_loopw [10] (fun iv wr => ∃ i : Nat, i ≤ 4 ∧ iv = .int .i64 i ∧ Row wr g9 34 (vc (fillN f 4 i)) ∧ Below g9 V1 wr) (fun iv _ => 4 - (intOf iv).toNat)
  case atStart => exact ⟨0, by omega, rfl, HR9.out, BV2.out⟩
  case round =>
    obtain ⟨i, hi, rfl, hR, hb⟩ := hrel
    by_cases hi4 : i < 4
    · have ii : (i : Int) < 4 := by omega
      obtain ⟨a, ha⟩ : ∃ a, a = P.getD i 0 := ⟨_, rfl⟩
      have aB := PB.out i
      rw [← ha] at aB
      obtain ⟨am, ham⟩ : ∃ m, m = a % s := ⟨_, rfl⟩
      have e1 : (a : Int) % (s : Int) = (am : Int) := by rw [ham]; simp
      have amS : am < s := by rw [ham]; exact Nat.mod_lt _ s0
      have rp := RP1.out
      rw [HPC.out] at rp
      have c1 := ((rp.below hb (by have := HG9.out; have := ZV1.out; omega)).cell i).trans (get_vc P i (by rw [HPL.out]; exact hi4))
      rw [← ha] at c1
      have f1 := hR.frozen i
      have c2 := (hR.cell i).trans (get_vc _ i (by rw [length_fillN]; exact hi4))
      have HR := Lib.hid hR
      have HB := Lib.hid hb
      have HI := Lib.hid hi4
      have HFI := Lib.hid (show f i = am by rw [HF.out, ham, ha])
      clear hR hb hi4 rp ha ham hi
      go_wp2_with fail
      go_region
      go_wp2_with fail
      go_roundw
      case rel =>
        refine ⟨i + 1, HI.out, by first | rfl | go_num, ?_, ?_⟩
        · have := HR.out.drew.set i (.int .u32 (am : Int))
          rw [set_vc] at this
          rw [fillN_succ, HFI.out]
          exact this
        · exact (bel_drew HB.out).setCell (p := ⟨g9, i, none⟩) (Nat.le_refl _) _
      case measure => have := HI.out; simp [intOf] <;> omega
    · obtain rfl : i = 4 := by omega
      rw [HALL.out] at hR
      have hB3 : Below w.heap.size w wr := bel_tr HV1.out (by rw [← HG9.out]; exact hb)
      have HB3 := Lib.hid hB3
      have HR3 := Lib.hid hR
      have HP3 := Lib.hid (RP1.out.below hb (by have := HG9.out; have := ZV1.out; omega))
      have HQ3 := Lib.hid (RQ1.out.below hb (by have := HG9.out; have := ZV1.out; omega))
      clear hR hb hB3 hi4 hi
      go_wp2_with (first | ((with_reducible show wpList _ _ _ (Oper.mk _ (Op.load _ _) _ _ _ _ :: _) _ _); refine wpList_load_arr rfl 34 (.tmp 9) rfl g9 34 #[.int .u32 w0, .int .u32 w1, .int .u32 w2, .int .u32 w3] Tryd.underlying34 Tryd.n34 rfl HR3.out ?_))
      refine (CU.out _ HB3.out).mono ?_
      rintro e V4 ⟨a1, c1, rfl, M1, b4⟩
      have HB4 := Lib.hid (bel_tr HB3.out b4)
      have HR4 := Lib.hid (HR3.out.below b4 HR3.out.lt)
      have HP4 := Lib.hid (HP3.out.below b4 HP3.out.lt)
      have HQ4 := Lib.hid (HQ3.out.below b4 HQ3.out.lt)
      have HM1 := Lib.hid M1
      clear b4 M1
      go_wp2_with (first | ((with_reducible show wpList _ _ _ (Oper.mk _ (Op.load _ _) _ _ _ _ :: _) _ _); refine wpList_load_arr rfl 34 (.tmp 9) rfl g9 34 #[.int .u32 w0, .int .u32 w1, .int .u32 w2, .int .u32 w3] Tryd.underlying34 Tryd.n34 rfl HR4.out ?_))
      refine (RU.out _).mono ?_
      rintro e V5 ⟨a2, c2, rfl, M2, b5⟩
      have HB5 := Lib.hid (bel_tr HB4.out b5)
      have HR5 := Lib.hid (HR4.out.below b5 HR4.out.lt)
      have HP5 := Lib.hid (HP4.out.below b5 HP4.out.lt)
      have HQ5 := Lib.hid (HQ4.out.below b5 HQ4.out.lt)
      have HM15 := Lib.hid (HM1.out.below b5 (Nat.le_refl _))
      have HM2 := Lib.hid M2
      clear b5 M2
      have q0 := HR5.out.cell 0
      have q1 := HR5.out.cell 1
      have q2 := HR5.out.cell 2
      have q3 := HR5.out.cell 3
      simp only [List.getElem?_toArray, List.getElem?_cons_zero, List.getElem?_cons_succ] at q0 q1 q2 q3
      obtain ⟨g15, hg15⟩ : ∃ x, x = V5.heap.size := ⟨_, rfl⟩
      obtain ⟨V6, hV6⟩ : ∃ W, W = V5.alloc (.cells #[.int .u32 m0, .int .u32 m1', .int .u32 m2', .int .u32 m3] 34) := ⟨_, rfl⟩
      have b6 : Below V5.heap.size V5 V6 := by rw [hV6]; exact (Below.refl _ _).alloc (Nat.le_refl _) _
      have HG15 := Lib.hid hg15
      have HV6 := Lib.hid hV6
      have HB6 := Lib.hid (bel_tr HB5.out b6)
      have HR6 : Hid (Row V6 g15 34 #[.int .u32 m0, .int .u32 m1', .int .u32 m2', .int .u32 m3]) := Lib.hid (by rw [hV6]; exact Row.new' 34 _ hg15)
      have HP6 := Lib.hid (HP5.out.below b6 HP5.out.lt)
      have HQ6 := Lib.hid (HQ5.out.below b6 HQ5.out.lt)
      have HM16 := Lib.hid (HM15.out.below b6 (Nat.le_refl _))
      have HM26 := Lib.hid (HM2.out.below b6 (Nat.le_refl _))
      clear hg15 hV6 b6
      go_wp2_with (first | ((with_reducible show wpList _ _ _ (Oper.mk _ (Op.alloc _) _ _ _ _ :: _) _ _); (refine wpList_new_row rfl rfl 34 15 (.tmp 76) rfl rfl rfl rfl g15 HG15.out #[.int .u32 m0, .int .u32 m1', .int .u32 m2', .int .u32 m3] rfl rfl _ Tryd.z34 Tryd.n34 rfl (one_four _ _ _ _) ?_; refine wpList_atE HV6.out ?_; clear q0 q1 q2 q3)) | ((with_reducible show wpList _ _ _ (Oper.mk _ (Op.load _ _) _ _ _ _ :: _) _ _); refine wpList_load_arr rfl 34 (.tmp 15) rfl g15 34 #[.int .u32 m0, .int .u32 m1', .int .u32 m2', .int .u32 m3] Tryd.underlying34 Tryd.n34 rfl HR6.out ?_))
      refine (CV.out _ HB6.out).mono ?_
      rintro e V7 ⟨a3, c3, rfl, M3, b7⟩
      have HB7 := Lib.hid (bel_tr HB6.out b7)
      have HR7 := Lib.hid (HR6.out.below b7 HR6.out.lt)
      have HP7 := Lib.hid (HP6.out.below b7 HP6.out.lt)
      have HQ7 := Lib.hid (HQ6.out.below b7 HQ6.out.lt)
      have HM17 := Lib.hid (HM16.out.below b7 (Nat.le_refl _))
      have HM27 := Lib.hid (HM26.out.below b7 (Nat.le_refl _))
      have HM3 := Lib.hid M3
      clear b7 M3
      go_wp2_with fail
      refine (sameR_any a1 a2 L1 L1 _ _ c1 c2 V7 rfl rfl LL.out HM17.out HM27.out).mono ?_
      rintro e V8 ⟨rfl, q8, rfl⟩
      have dd : decide (L1 = L1) = true := decide_eq_true rfl
      go_upto_if 97 with fail
      go_cut [18, 19] from 96 to 106 (fun _ _ wx => Below V7.heap.size V7 wx)
      case first =>
        by_cases h16 : 16 < o
        · have d1 : (16 : Int) < (o : Int) := by omega
          have d2 : decide (16 < o) = true := decide_eq_true h16
          have HH := Lib.hid h16
          clear h16
          go_wp2_with (first | ((with_reducible show wpList _ _ _ (Oper.mk _ (Op.load _ _) _ _ _ _ :: _) _ _); refine wpList_load_arr rfl 34 (.tmp 4) rfl g 34 #[.int .u32 p0, .int .u32 p1, .int .u32 p2, .int .u32 p3] Tryd.underlying34 Tryd.n34 rfl (HP7.out.drewN q8) ?_))
          refine (BAD.out _ HH.out).mono ?_
          rintro e V9 ⟨rfl, b9⟩
          have HB9 := Lib.hid ((below_drewN (Below.refl V7.heap.size V7) q8).trans b9)
          clear b9
          go_wp2_with fail
          go_meet
          exact HB9.out
        · have d1 : ¬ (16 : Int) < (o : Int) := by omega
          have d2 : decide (16 < o) = false := decide_eq_false h16
          clear h16
          go_wp2_with fail
          go_meet
          exact below_drewN (Below.refl _ _) q8
      case rest =>
        have b9 := hcut
        rename World => V9
        have HB9 := Lib.hid (bel_tr HB7.out b9)
        have HR9' := Lib.hid (HR7.out.below b9 HR7.out.lt)
        have HQ9 := HQ7.out.below b9 HQ7.out.lt
        have HM9 := Lib.hid (HM3.out.below b9 (Nat.le_refl _))
        have s0' := HQ9.cell 0
        have s1' := HQ9.cell 1
        simp only [List.getElem?_toArray, List.getElem?_cons_zero, List.getElem?_cons_succ] at s0' s1'
        have u0 := HR9'.out.cell 0
        have u1 := HR9'.out.cell 1
        have u2 := HR9'.out.cell 2
        have u3 := HR9'.out.cell 3
        simp only [List.getElem?_toArray, List.getElem?_cons_zero, List.getElem?_cons_succ] at u0 u1 u2 u3
        have U0 := Lib.hid u0
        have U1 := Lib.hid u1
        have U2 := Lib.hid u2
        have U3 := Lib.hid u3
        clear b9 hcut HQ9 u0 u1 u2 u3
        go_wp2_with fail
        go_quiet (fail)
        go_wp2_with fail
        go_quiet (fail)
        go_wp2_with fail
        refine (RI.out _).mono ?_
        rintro e V10 ⟨rfl, hw10⟩
        rw [hw10]
        clear hw10 s0' s1'
        go_wp2_with fail
        go_loopw [24, 25] (fun fv iv wr => ∃ i q : Nat, i ≤ C.length ∧ iv = .int .i64 i ∧ fv = .int .i64 (found C ix i) ∧ wr = V9.drewN q) (fun _ iv _ => C.length - (intOf iv).toNat)
        case atStart => exact ⟨0, _, Nat.zero_le _, rfl, rfl, by first | rfl | (simp only [World.drewN_drewN]; rfl)⟩
        case round =>
          obtain ⟨i, q, hi, rfl, rfl, hw⟩ := hrel
          have LC := HLC.out
          by_cases hlt : i < C.length
          · have ii : (i : Int) < (C.length : Int) := by omega
            obtain ⟨gc, oc, rfl, hgc, hcell⟩ : ∃ gc oc, a3 = some ⟨gc, oc, none⟩ ∧ gc < V9.heap.size ∧ ∀ i, i < C.length → V9.rangeAt gc (oc + i * 2) (rcell (C.getD i (0, 0))) := by
              rcases HM9.out with ⟨_, h⟩ | h
              · omega
              · exact h
            have HX := Lib.hid hcell
            obtain ⟨⟨lo, hi'⟩, hlh⟩ : ∃ p, p = C.getD i (0, 0) := ⟨_, rfl⟩
            have cb := CB.out i hlt
            rw [← hlh] at cb
            simp only at cb
            have cA := hcell i hlt 0 (.int .u64 lo) (by rw [← hlh]; rfl)
            have cB := hcell i hlt 1 (.int .u64 hi') (by rw [← hlh]; rfl)
            rw [Nat.add_zero] at cA
            have cA' : wr.cell? ⟨gc, oc + i * 2, none⟩ = some (.int .u64 lo) := by rw [hw]; exact cA
            have cB' : wr.cell? ⟨gc, oc + i * 2 + 1, none⟩ = some (.int .u64 hi') := by rw [hw]; exact cB
            obtain ⟨hle, h1024⟩ := cb
            have nlt : ¬ (hi' : Int) < (lo : Int) := by omega
            have dlt : decide (hi' < lo) = false := decide_eq_false (by omega)
            obtain ⟨fi, hfi⟩ : ∃ f, f = found C ix i := ⟨_, rfl⟩
            have FS : found C ix (i + 1) = fi + if lo ≤ ix ∧ ix ≤ hi' then 1 else 0 := by rw [found, ← hlh, hfi]
            rw [← hfi]
            have fb : fi ≤ 1000000 := by
              have : ∀ m, found C ix m ≤ m := by
                intro m
                induction m with
                | zero => exact Nat.le_refl _
                | succ m ih => rw [found]; split <;> omega
              have := this i
              omega
            have HW := Lib.hid hw
            have HI := Lib.hid hlt
            clear hcell cA cB hfi hw hi
            by_cases hi0 : i = 0
            · subst hi0
              simp only [Nat.zero_mul, Nat.add_zero] at cA' cB'
              clear hlt hlh
              by_cases pA : lo ≤ ix
              · by_cases pB : ix ≤ hi'
                · skip
                  have FN := Lib.hid (FS.trans (by rw [if_pos (by omega)]))
                  have eA : ((lo : Int) ≤ (ix : Int)) := by omega
                  have dA : decide (lo ≤ ix) = true := decide_eq_true pA
                  have eB : ((ix : Int) ≤ (hi' : Int)) := by omega
                  have dB : decide (ix ≤ hi') = true := decide_eq_true pB
                  clear FS pA pB
                  go_wp2_with fail
                  go_quiet (fail)
                  go_wp2_with fail
                  go_roundw
                  case rel => exact ⟨_, q + nq, HI.out, by go_num, by rw [FN.out]; first | rfl | go_num, by rw [HW.out, World.drewN_drewN]⟩
                  case measure => have := HI.out; simp [intOf] <;> omega
                · skip
                  have FN := Lib.hid (FS.trans (by rw [if_neg (by omega)]))
                  have eA : ((lo : Int) ≤ (ix : Int)) := by omega
                  have dA : decide (lo ≤ ix) = true := decide_eq_true pA
                  have eB : ¬ ((ix : Int) ≤ (hi' : Int)) := by omega
                  have dB : decide (ix ≤ hi') = false := decide_eq_false pB
                  clear FS pA pB
                  go_wp2_with fail
                  go_quiet (fail)
                  go_wp2_with fail
                  go_roundw
                  case rel => exact ⟨_, q + nq, HI.out, by go_num, by rw [FN.out]; first | rfl | go_num, by rw [HW.out, World.drewN_drewN]⟩
                  case measure => have := HI.out; simp [intOf] <;> omega
              · skip
                have FN := Lib.hid (FS.trans (by rw [if_neg (by omega)]))
                have eA : ¬ ((lo : Int) ≤ (ix : Int)) := by omega
                have dA : decide (lo ≤ ix) = false := decide_eq_false pA
                clear FS pA
                go_wp2_with fail
                go_quiet (fail)
                go_wp2_with fail
                go_roundw
                case rel => exact ⟨_, q + nq, HI.out, by go_num, by rw [FN.out]; first | rfl | go_num, by rw [HW.out, World.drewN_drewN]⟩
                case measure => have := HI.out; simp [intOf] <;> omega
            · obtain ⟨im, him⟩ : ∃ p, p = i - 1 := ⟨_, rfl⟩
              have eim : (i : Int) - 1 = (im : Int) := by omega
              have iml : (im : Int) < (C.length : Int) := by omega
              have ip : (0 : Int) < (i : Int) := by omega
              have ip2 : decide (0 < i) = true := decide_eq_true (by omega)
              obtain ⟨⟨plo, phi⟩, hplh⟩ : ∃ p, p = C.getD im (0, 0) := ⟨_, rfl⟩
              have cg := CG.out im (by omega)
              rw [show im + 1 = i by omega, ← hlh, ← hplh] at cg
              simp only at cg
              have pb := (CB.out im (by omega)).2
              rw [← hplh] at pb
              simp only at pb
              have cP : wr.cell? ⟨gc, oc + im * 2 + 1, none⟩ = some (.int .u64 phi) := by rw [HW.out]; exact HX.out im (by omega) 1 (.int .u64 phi) (by rw [← hplh]; rfl)
              have ngp : ¬ (lo : Int) ≤ (phi : Int) + 1 := by omega
              have dgp : decide (lo ≤ phi + 1) = false := decide_eq_false (by omega)
              have dgi : decide ((lo : Int) ≤ (phi : Int) + 1) = false := decide_eq_false ngp
              clear hlt hlh hplh cg him hi0
              by_cases pA : lo ≤ ix
              · by_cases pB : ix ≤ hi'
                · skip
                  have FN := Lib.hid (FS.trans (by rw [if_pos (by omega)]))
                  have eA : ((lo : Int) ≤ (ix : Int)) := by omega
                  have dA : decide (lo ≤ ix) = true := decide_eq_true pA
                  have eB : ((ix : Int) ≤ (hi' : Int)) := by omega
                  have dB : decide (ix ≤ hi') = true := decide_eq_true pB
                  clear FS pA pB
                  go_wp2_with fail
                  go_quiet (fail)
                  go_wp2_with fail
                  go_roundw
                  case rel => exact ⟨_, q + nq, HI.out, by go_num, by rw [FN.out]; first | rfl | go_num, by rw [HW.out, World.drewN_drewN]⟩
                  case measure => have := HI.out; simp [intOf] <;> omega
                · skip
                  have FN := Lib.hid (FS.trans (by rw [if_neg (by omega)]))
                  have eA : ((lo : Int) ≤ (ix : Int)) := by omega
                  have dA : decide (lo ≤ ix) = true := decide_eq_true pA
                  have eB : ¬ ((ix : Int) ≤ (hi' : Int)) := by omega
                  have dB : decide (ix ≤ hi') = false := decide_eq_false pB
                  clear FS pA pB
                  go_wp2_with fail
                  go_quiet (fail)
                  go_wp2_with fail
                  go_roundw
                  case rel => exact ⟨_, q + nq, HI.out, by go_num, by rw [FN.out]; first | rfl | go_num, by rw [HW.out, World.drewN_drewN]⟩
                  case measure => have := HI.out; simp [intOf] <;> omega
              · skip
                have FN := Lib.hid (FS.trans (by rw [if_neg (by omega)]))
                have eA : ¬ ((lo : Int) ≤ (ix : Int)) := by omega
                have dA : decide (lo ≤ ix) = false := decide_eq_false pA
                clear FS pA
                go_wp2_with fail
                go_quiet (fail)
                go_wp2_with fail
                go_roundw
                case rel => exact ⟨_, q + nq, HI.out, by go_num, by rw [FN.out]; first | rfl | go_num, by rw [HW.out, World.drewN_drewN]⟩
                case measure => have := HI.out; simp [intOf] <;> omega
          · obtain rfl : i = C.length := by omega
            clear hlt hi LC
            obtain ⟨fN, hfN⟩ : ∃ f, f = found C ix C.length := ⟨_, rfl⟩
            have fd := HFD.out
            rw [← hfN] at fd
            rw [← hfN]
            have u0 : wr.cell? ⟨g15, 0, none⟩ = some (.int .u32 m0) := by rw [hw]; exact U0.out
            have u1 : wr.cell? ⟨g15, 1, none⟩ = some (.int .u32 m1') := by rw [hw]; exact U1.out
            have u2 : wr.cell? ⟨g15, 2, none⟩ = some (.int .u32 m2') := by rw [hw]; exact U2.out
            have u3 : wr.cell? ⟨g15, 3, none⟩ = some (.int .u32 m3) := by rw [hw]; exact U3.out
            have HW := Lib.hid hw
            have nn : ¬ (C.length : Int) < (C.length : Int) := by omega
            clear hfN hw
            have INB := IN.out
            cases hbb : bi with
            | true =>
              obtain rfl : fN = 1 := fd.2.2 hbb
              rw [hbb] at INB
              have HIN := Lib.hid INB
              clear fd INB hbb
              go_wp2_with fail
              refine (HIN.out _).mono ?_
              rintro e V11 ⟨rfl, b11⟩
              have HB11 := Lib.hid (b11)
              clear b11
              go_wp2_with fail
              go_ret
              refine ⟨rfl, ?_⟩
              have b12 := HB11.out
              rw [HW.out] at b12
              exact bel_tr (below_drewN HB9.out q) b12
            | false =>
              obtain rfl : fN = 0 := by
                have : ¬ fN = 1 := fun h => by have := fd.2.1 h; rw [hbb] at this; cases this
                omega
              rw [hbb] at INB
              have HIN := Lib.hid INB
              clear fd INB hbb
              go_wp2_with fail
              refine (HIN.out _).mono ?_
              rintro e V11 ⟨rfl, b11⟩
              have HB11 := Lib.hid (b11)
              clear b11
              go_wp2_with fail
              go_ret
              refine ⟨rfl, ?_⟩
              have b12 := HB11.out
              rw [HW.out] at b12
              exact bel_tr (below_drewN HB9.out q) b12
end Go.Proofs.YtnpkbjekodjcjaaDoor
