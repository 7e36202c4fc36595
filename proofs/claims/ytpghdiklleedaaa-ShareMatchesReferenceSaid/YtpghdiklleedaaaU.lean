/- The walk of ShareLinear. -/
import Derived.Test.YtpghdiklleedaaaBf
import Derived.Test.YtpghdiklleedaaaS
set_option linter.all false
namespace Go.Proofs.Ytpghdiklleedaaa
open Go.RowKit Go.Fen Gf
set_option maxHeartbeats 400000

theorem Shs.at {w : World} {g : Nat} {M : List Shr} (h : Shs w (some ⟨g, 0, none⟩) M) (k : Nat) (hk : k < M.length) (b : List (BitVec 8)) (hb : (M.getD k zs).b = b) (x : BitVec 8) (hx : (M.getD k zs).x = x) :
    ∃ a c, w.cell? ⟨g, k * 2, none⟩ = some (.int .u8 x.toNat) ∧ w.cell? ⟨g, k * 2 + 1, none⟩ = some (.slice a b.length c) ∧ b.length ≤ c ∧ Bs w a b := by
  rcases h.cells with h0 | ⟨g', o, ea, hc⟩
  · rw [h0] at hk; simp at hk
  · obtain ⟨rfl, rfl⟩ : g = g' ∧ 0 = o := by simpa using Option.some.inj ea
    obtain ⟨a, c, ev, hcap, hbs⟩ := h.svs k hk
    have hcc := hc k hk
    rw [Nat.zero_add, ev, hb, hx] at hcc
    rw [hb] at hcap hbs
    exact ⟨a, c, hcc.1, hcc.2, hcap, hbs⟩
theorem length_sumsL (D E : Dat) : (sumsL D E).length = D.length := by simp [sumsL]
theorem sumsL_take (D E : Dat) (k : Nat) (hk : k < D.length) : (sumsL D E).take (k + 1) = (sumsL D E).take k ++ [(dX D k, sumL (dB D k) (dB E k))] := by
  rw [List.take_succ_eq_append_getElem (by rw [length_sumsL]; exact hk)]
  simp [sumsL]
theorem dat_append (M : List Shr) (t : Shr) : dat (M ++ [t]) = dat M ++ [(t.x, t.b)] := by simp [dat]

set_option maxRecDepth 20000 in
set_option maxHeartbeats 4000000 in
theorem linear_walk (asl ar bsl br : Option Addr) (s r t q : List (BitVec 8)) (ls cs lr cr lt ct lq cq p n p2 n2 : Nat) (els : ls = s.length) (elr : lr = r.length) (elt : lt = t.length) (elq : lq = q.length) (hp : p < 256) (hn : n < 256) (hp2 : p2 < 256) (hn2 : n2 < 256)
    (w : World) (B1 : Bs w asl s) (B2 : Bs w ar r) (B3 : Bs w bsl t) (B4 : Bs w br q) :
    Calls Try.prog 8 #[.agg #[.slice asl ls cs, .slice ar lr cr, .int .u8 p, .int .u8 n], .agg #[.slice bsl lt ct, .slice br lq cq, .int .u8 p2, .int .u8 n2]] w fun e w' => e = .returned (.bool true) ∧ Below w.heap.size w w' := by
  obtain ⟨g, eg⟩ : ∃ g, g = w.heap.size := ⟨_, rfl⟩
  obtain ⟨W0, hW0⟩ : ∃ W, W = (w.alloc (.cells #[.slice asl ls cs, .slice ar lr cr, .int .u8 p, .int .u8 n] 29)).alloc (.cells #[.slice bsl lt ct, .slice br lq cq, .int .u8 p2, .int .u8 n2] 29) := ⟨_, rfl⟩
  have hd : Row W0 g 29 (dealC asl ar ls cs lr cr p n) := by rw [hW0]; exact (Row.new' _ _ eg).alloc _
  have he : Row W0 (g + 1) 29 (dealC bsl br lt ct lq cq p2 n2) := by rw [hW0]; exact Row.new' _ _ (by simp [eg])
  have hb : Below w.heap.size w W0 := by rw [hW0]; exact ((Below.refl _ _).alloc (Nat.le_refl _) _).alloc (by simp) _
  have HN := Lib.hid (And.intro (needN_pos p) (And.intro (needN_le p) (And.intro (allN_ge p n) (allN_le p n))))
  have HF := Lib.hid (fun W => fits_any asl ar ls lr cs cr p n hp hn W)
  have HG := Lib.hid (fun W => fits_any bsl br lt lq ct cq p2 n2 hp2 hn2 W)
  generalize needN p = N at *
  generalize allN p n = A at *
  generalize needN p2 = N2 at *
  generalize allN p2 n2 = A2 at *
  generalize hsm : decide (ls ≤ 40 ∧ lr ≤ 400) = sm at *
  generalize hsm2 : decide (lt ≤ 40 ∧ lq ≤ 400) = sm2 at *
  have HSM := Lib.hid hsm
  have HSM2 := Lib.hid hsm2
  have EG := Lib.hid eg
  have ES := Lib.hid els
  have ER := Lib.hid elr
  have ET := Lib.hid elt
  have EQ := Lib.hid elq
  have HB1 := Lib.hid B1
  have HB2 := Lib.hid B2
  have HB3 := Lib.hid B3
  have HB4 := Lib.hid B4
  have HW0 := Lib.hid hW0
  clear eg els elr elt elq B1 B2 B3 B4 hW0 hsm hsm2
  go_enter Try.func8, Try.ntmps8
  go_wp2_with fail
  rw [← EG.out, ← HW0.out]
  refine (sanity_any W0).mono ?_
  rintro e w1 ⟨rfl, b1⟩
  have HD1 := Lib.hid (hd.below b1 hd.lt)
  have HE1 := Lib.hid (he.below b1 he.lt)
  have Hb1 := Lib.hid (below_of hb b1 hb.size)
  clear hd he hb b1
  go_wp2_with (first | ((with_reducible show wpList _ _ _ (Oper.mk _ (Op.load _ _) _ _ _ _ :: _) _ _); refine wpList_load_row rfl 29 (.tmp 2) rfl g rfl 29 (dealC asl ar ls cs lr cr p n) (0, 0) _ HD1.out Try.underlying29 rfl Try.n29 ?_))
  refine (HF.out w1).mono ?_
  rintro e w2 ⟨rfl, b2⟩
  obtain ⟨g6, eg6⟩ : ∃ g, g = w2.heap.size := ⟨_, rfl⟩
  obtain ⟨W3, hW3⟩ : ∃ W, W = w2.alloc (.cells #[.int .i64 N, .int .i64 A] 30) := ⟨_, rfl⟩
  have HV3 : Hid (Row W3 g6 30 #[.int .i64 N, .int .i64 A]) := Lib.hid (by rw [hW3]; exact Row.new' _ _ eg6)
  have HD3 : Hid (Row W3 g 29 (dealC asl ar ls cs lr cr p n)) := Lib.hid (by rw [hW3]; exact (HD1.out.below b2 HD1.out.lt).alloc _)
  have HE3 : Hid (Row W3 (g + 1) 29 (dealC bsl br lt ct lq cq p2 n2)) := Lib.hid (by rw [hW3]; exact (HE1.out.below b2 HE1.out.lt).alloc _)
  have Hb3 : Hid (Below w.heap.size w W3) := Lib.hid (by rw [hW3]; exact (below_of Hb1.out b2 Hb1.out.size).alloc (Nat.le_trans Hb1.out.size b2.size) _)
  have EG6 := Lib.hid eg6
  have HW3 := Lib.hid hW3
  clear b2 HD1 HE1 Hb1 eg6 hW3
  go_wp2_with (first | ((with_reducible show wpList _ _ _ (Oper.mk _ (Op.alloc _) _ _ _ _ :: _) _ _); refine wpList_alloc_row rfl 30 rfl _ Try.z30 g6 EG6.out ?_) | ((with_reducible show wpList _ _ _ (Oper.mk _ (Op.store _ _ _) _ _ _ _ :: _) _ _); (refine wpList_put_arr rfl 30 (.tmp 6) (.tmp 22) rfl rfl g6 30 _ #[.int .i64 N, .int .i64 A] rfl rfl (Row.new' _ _ EG6.out) Try.n30 rfl (one_w _ _) ?_; rw [setRow_new _ _ _ _ _ EG6.out, ← HW3.out])) | ((with_reducible show wpList _ _ _ (Oper.mk _ (Op.load _ _) _ _ _ _ :: _) _ _); refine wpList_load_row rfl 29 (.tmp 3) rfl (g + 1) rfl 29 (dealC bsl br lt ct lq cq p2 n2) (0, 0) _ HE3.out Try.underlying29 rfl Try.n29 ?_))
  refine (HG.out W3).mono ?_
  rintro e w4 ⟨rfl, b4⟩
  obtain ⟨g8, eg8⟩ : ∃ g, g = w4.heap.size := ⟨_, rfl⟩
  obtain ⟨W5, hW5⟩ : ∃ W, W = w4.alloc (.cells #[.int .i64 N2, .int .i64 A2] 30) := ⟨_, rfl⟩
  have HV5 : Hid (Row W5 g6 30 #[.int .i64 N, .int .i64 A]) := Lib.hid (by rw [hW5]; exact (HV3.out.below b4 HV3.out.lt).alloc _)
  have hd5 : Row W5 g 29 (dealC asl ar ls cs lr cr p n) := by rw [hW5]; exact (HD3.out.below b4 HD3.out.lt).alloc _
  have he5 : Row W5 (g + 1) 29 (dealC bsl br lt ct lq cq p2 n2) := by rw [hW5]; exact (HE3.out.below b4 HE3.out.lt).alloc _
  have Hb5 : Hid (Below w.heap.size w W5) := Lib.hid (by rw [hW5]; exact (below_of Hb3.out b4 Hb3.out.size).alloc (Nat.le_trans Hb3.out.size b4.size) _)
  have EG8 := Lib.hid eg8
  have HW5 := Lib.hid hW5
  have c0 := hd5.cell 0
  have c1 := hd5.cell 1
  have d0 := he5.cell 0
  simp only [dealC, List.getElem?_toArray, List.getElem?_cons_zero, List.getElem?_cons_succ] at c0 c1 d0
  have HD5 := Lib.hid hd5
  have HE5 := Lib.hid he5
  clear b4 HD3 HE3 HV3 Hb3 eg8 hW5 hd5 he5
  cases sm with
  | false =>
    go_wp2_with (first | ((with_reducible show wpList _ _ _ (Oper.mk _ (Op.alloc _) _ _ _ _ :: _) _ _); refine wpList_alloc_row rfl 30 rfl _ Try.z30 g8 EG8.out ?_) | ((with_reducible show wpList _ _ _ (Oper.mk _ (Op.store _ _ _) _ _ _ _ :: _) _ _); (refine wpList_put_arr rfl 30 (.tmp 8) (.tmp 27) rfl rfl g8 30 _ #[.int .i64 N2, .int .i64 A2] rfl rfl (Row.new' _ _ EG8.out) Try.n30 rfl (one_w _ _) ?_; rw [setRow_new _ _ _ _ _ EG8.out, ← HW5.out])))
    go_ret
    exact ⟨rfl, Hb5.out⟩
  | true =>
    cases sm2 with
    | false =>
      go_wp2_with (first | ((with_reducible show wpList _ _ _ (Oper.mk _ (Op.alloc _) _ _ _ _ :: _) _ _); refine wpList_alloc_row rfl 30 rfl _ Try.z30 g8 EG8.out ?_) | ((with_reducible show wpList _ _ _ (Oper.mk _ (Op.store _ _ _) _ _ _ _ :: _) _ _); (refine wpList_put_arr rfl 30 (.tmp 8) (.tmp 27) rfl rfl g8 30 _ #[.int .i64 N2, .int .i64 A2] rfl rfl (Row.new' _ _ EG8.out) Try.n30 rfl (one_w _ _) ?_; rw [setRow_new _ _ _ _ _ EG8.out, ← HW5.out])))
      go_ret
      exact ⟨rfl, Hb5.out⟩
    | true =>
      by_cases hll : ls = lt
      · subst hll
        go_wp2_with (first | ((with_reducible show wpList _ _ _ (Oper.mk _ (Op.alloc _) _ _ _ _ :: _) _ _); refine wpList_alloc_row rfl 30 rfl _ Try.z30 g8 EG8.out ?_) | ((with_reducible show wpList _ _ _ (Oper.mk _ (Op.store _ _ _) _ _ _ _ :: _) _ _); (refine wpList_put_arr rfl 30 (.tmp 8) (.tmp 27) rfl rfl g8 30 _ #[.int .i64 N2, .int .i64 A2] rfl rfl (Row.new' _ _ EG8.out) Try.n30 rfl (one_w _ _) ?_; rw [setRow_new _ _ _ _ _ EG8.out, ← HW5.out])) | ((with_reducible show wpList _ _ _ (Oper.mk _ (Op.load _ _) _ _ _ _ :: _) _ _); refine wpList_load_row rfl 30 (.tmp 6) rfl g6 rfl 30 #[.int .i64 N, .int .i64 A] (0, 0) _ HV5.out Try.underlying30 rfl Try.n30 ?_))
        clear c0 c1 d0
        have hsmT := of_decide_eq_true HSM.out
        have hsmT2 := of_decide_eq_true HSM2.out
        obtain ⟨n1, n8, nA, n16⟩ := HN.out
        have hsp := split_any asl ar s r cs cr N A n1 nA (by omega) (by rw [← ES.out]; omega) (by rw [← ER.out]; omega) W5 (HB1.out.below Hb5.out (Nat.le_refl _)) (HB2.out.below Hb5.out (Nat.le_refl _))
        rw [← ES.out, ← ER.out] at hsp
        refine hsp.mono ?_
        clear hsp
        rintro e w6 ⟨gl, M1, rfl, hM, hMl, hSh, hgl, hrow, b6⟩
        have hd6 := HD5.out.below b6 HD5.out.lt
        have he6 := HE5.out.below b6 HE5.out.lt
        have HV6 := Lib.hid (HV5.out.below b6 HV5.out.lt)
        have Hb6 := Lib.hid (below_of Hb5.out b6 Hb5.out.size)
        have d0 := he6.cell 0
        have d1 := he6.cell 1
        simp only [dealC, List.getElem?_toArray, List.getElem?_cons_zero, List.getElem?_cons_succ] at d0 d1
        have HD6 := Lib.hid hd6
        have HE6 := Lib.hid he6
        have HM1 := Lib.hid hM
        have HMl1 := Lib.hid hMl
        have HSh1 := Lib.hid hSh
        clear hd6 he6 hM hMl hSh hgl hrow b6
        go_wp2_with (first | ((with_reducible show wpList _ _ _ (Oper.mk _ (Op.load _ _) _ _ _ _ :: _) _ _); refine wpList_load_row rfl 30 (.tmp 6) rfl g6 rfl 30 #[.int .i64 N, .int .i64 A] (0, 0) _ HV6.out Try.underlying30 rfl Try.n30 ?_))
        clear d0 d1
        have hsp := split_any bsl br t q ct cq N A n1 nA (by omega) (by rw [← ET.out]; omega) (by rw [← EQ.out]; omega) w6 (HB3.out.below Hb6.out (Nat.le_refl _)) (HB4.out.below Hb6.out (Nat.le_refl _))
        rw [← ET.out, ← EQ.out] at hsp
        refine hsp.mono ?_
        clear hsp
        rintro e w7 ⟨gm, M2, rfl, hM, hMl, hSh, hgl, hrow, b7⟩
        have HD7 := Lib.hid (HD6.out.below b7 HD6.out.lt)
        have HE7 := Lib.hid (HE6.out.below b7 HE6.out.lt)
        have hv7 := HV6.out.below b7 HV6.out.lt
        have Hb7 := Lib.hid (below_of Hb6.out b7 Hb6.out.size)
        have v1 := hv7.cell 1
        simp only [List.getElem?_toArray, List.getElem?_cons_zero, List.getElem?_cons_succ] at v1
        have HV7 := Lib.hid hv7
        have HM2 := Lib.hid hM
        have HMl2 := Lib.hid hMl
        have HSh2 := Lib.hid hSh
        have HSh17 := Lib.hid (HSh1.out.below b7 (Nat.le_refl _))
        clear hv7 hM hMl hSh hgl hrow b7
        obtain ⟨B, hB⟩ : ∃ B, B = w7.heap.size := ⟨_, rfl⟩
        obtain ⟨W8, hW8⟩ : ∃ W, W = w7.alloc (.cells #[] 33) := ⟨_, rfl⟩
        have hF0 : BufF B (.slice (some ⟨B, 0, none⟩) 0 0) [] w7 W8 := by rw [hW8]; exact BufF.nil (BufS.lit0 hB (Below.refl _ _))
        have HBB := Lib.hid hB
        have HW8 := Lib.hid hW8
        clear hB hW8
        go_wp2_with fail
        rw [← HBB.out, ← HW8.out]
        clear v1
        have hS0 : Hid (dat ([] : List Shr) = (sumsL (dat M1) (dat M2)).take 0) := Lib.hid rfl
        have hlawS : Hid (combR (sumsL (dat M1) (dat M2)) N = some (sumL s t)) := Lib.hid (by rw [HM1.out, HM2.out]; exact law_linear s r t q N A n1 nA (by omega) (by rw [← ES.out, ← ET.out]))
        have hlenS : Hid ((sumsL (dat M1) (dat M2)).length = A) := Lib.hid (by rw [length_sumsL, length_dat, HMl1.out])
        -- what is read of share k
        have hk1 : Hid (∀ k, k < A → ∃ a1 x1 a2 x2 b1 b2 x, dB (dat M1) k = b1 ∧ dB (dat M2) k = b2 ∧ dX (dat M1) k = x ∧ b1.length = ls ∧ b2.length = ls ∧ b1.length ≤ 40 ∧ Bs w7 a1 b1 ∧ Bs w7 a2 b2 ∧ w7.cell? ⟨gl, k * 2, none⟩ = some (.int .u8 x.toNat) ∧ w7.cell? ⟨gl, k * 2 + 1, none⟩ = some (.slice a1 ls x1) ∧ w7.cell? ⟨gm, k * 2, none⟩ = some (.int .u8 x.toNat) ∧ w7.cell? ⟨gm, k * 2 + 1, none⟩ = some (.slice a2 ls x2)) := Lib.hid fun k hk => by
          have e1 : (M1.getD k zs).b.length = ls := by rw [← dB_dat, HM1.out, split_dB _ _ _ _ _ hk, length_maskL, ES.out]
          have e2 : (M2.getD k zs).b.length = ls := by rw [← dB_dat, HM2.out, split_dB _ _ _ _ _ hk, length_maskL, ET.out]
          have ex1 : (M1.getD k zs).x = BitVec.ofNat 8 (k + 1) := by rw [← dX_dat, HM1.out, split_dX _ _ _ _ _ hk]
          have ex2 : (M2.getD k zs).x = BitVec.ofNat 8 (k + 1) := by rw [← dX_dat, HM2.out, split_dX _ _ _ _ _ hk]
          obtain ⟨a1, x1, p1, p2, _, p3⟩ := Shs.at HSh17.out k (by rw [HMl1.out]; exact hk) _ rfl _ ex1
          obtain ⟨a2, x2, q1, q2, _, q3⟩ := Shs.at HSh2.out k (by rw [HMl2.out]; exact hk) _ rfl _ ex2
          rw [e1] at p2
          rw [e2] at q2
          exact ⟨a1, x1, a2, x2, _, _, _, dB_dat M1 k, dB_dat M2 k, by rw [dX_dat, ex1], e1, e2, by omega, p3, q3, p1, p2, q1, q2⟩
        go_loopw [4, 14, 15] (fun z v i wr => ∃ k : Nat, k ≤ A ∧ i = .int .i64 k ∧ ∃ M, dat M = (sumsL (dat M1) (dat M2)).take k ∧ BufF B v M w7 wr) (fun _ _ i _ => A - (intOf i).toNat)
        case atStart => exact ⟨0, by omega, rfl, [], hS0.out, hF0⟩
        case round =>
          clear hF0
          obtain ⟨k, hk, rfl, M, hM, hF⟩ := hrel
          by_cases hkA : k < A
          · have ki : (k : Int) < (A : Int) := by omega
            obtain ⟨a1, x1, a2, x2, s1, s2, x, eb1, eb2, ex, el1, el2, el40, Q1, Q2, p1, p2, q1, q2⟩ := hk1.out k hkA
            have blt : ∀ {a : Addr} {v : Value}, w7.cell? a = some v → a.block < B := fun h => by rw [HBB.out]; exact block_lt_of_cell h
            have p1' := (hF.buf.2.1.cell (blt p1)).trans p1
            have p2' := (hF.buf.2.1.cell (blt p2)).trans p2
            have q1' := (hF.buf.2.1.cell (blt q1)).trans q1
            have q2' := (hF.buf.2.1.cell (blt q2)).trans q2
            have hd := HD7.out.below hF.buf.2.1 (by rw [HBB.out]; exact HD7.out.lt)
            have c0 := hd.cell 0
            simp only [dealC, List.getElem?_toArray, List.getElem?_cons_zero, List.getElem?_cons_succ] at c0
            have hst : Hid (dat M ++ [(x, sumL s1 s2)] = (sumsL (dat M1) (dat M2)).take (k + 1)) := Lib.hid (by rw [sumsL_take _ _ _ (by rw [length_dat, HMl1.out]; exact hkA), hM, eb1, eb2, ex])
            have hMlen : M.length = k := by rw [← length_dat, hM, List.length_take, hlenS.out]; omega
            have HSum : Hid (∀ W, Below B w7 W → Calls Try.prog 27 #[.slice a1 ls x1, .slice a2 ls x2] W fun e w' => ∃ v, e = .returned v ∧ BufB W.heap.size v (sumL s1 s2) W w') := Lib.hid fun W hW => sum_any a1 a2 s1 s2 ls x1 x2 W el1.symm el2.symm (by omega) (Q1.below hW (Nat.le_of_eq HBB.out.symm)) (Q2.below hW (Nat.le_of_eq HBB.out.symm))
            have HF := Lib.hid hF
            have HML := Lib.hid hMlen
            have P1 := Lib.hid p1
            have BLT := Lib.hid (blt p1)
            generalize sumL s1 s2 = sb at *
            clear hF hM eb1 eb2 ex el1 el2 el40 Q1 Q2 p1 p2 q1 q2 blt hd hMlen hkA
            go_wp2_with fail
            go_quiet (fail)
            go_wp2_with fail
            have hF2 : BufF B u14 M w7 (wr.drewN nq) := HF.out.drewN nq
            have p1q : (wr.drewN nq).cell? ⟨gl, k * 2, none⟩ = some (.int .u8 x.toNat) := p1'
            have p2q : (wr.drewN nq).cell? ⟨gl, k * 2 + 1, none⟩ = some (.slice a1 ls x1) := p2'
            have q2q : (wr.drewN nq).cell? ⟨gm, k * 2 + 1, none⟩ = some (.slice a2 ls x2) := q2'
            clear HF p1' p2' q1' q2' c0
            generalize wr.drewN nq = Wq at *
            clear wr
            have HF2 := Lib.hid hF2.drew
            have BLq := Lib.hid (Nat.lt_of_lt_of_le BLT.out hF2.buf.2.2)
            clear hF2
            go_region_law (first | (refine step_pushF rfl (.tmp 125) (.tmp 143) rfl B u14 M rfl w7 w' _ (Shr.mk x (.slice va sb.length vc) sb) hS rfl hF3 w'.heap.size rfl rfl (by rw [HML.out]; omega) (fun v' w'' hv' hg => ?_)) | (go_simp; go_at_call 27; refine (HSum.out Wq.drew HF2.out.buf.2.1).mono ?_; rintro e w' ⟨vs, rfl, hbuf⟩; have hF3 := HF2.out.call hbuf.2.1; have hS := hbuf.svx HF2.out.own_lt; obtain ⟨va, vc, ev, _⟩ := id hS; subst ev; have p1w : w'.cell? ⟨gl, k * 2, none⟩ = some (.int .u8 x.toNat) := (hbuf.2.1.cell (p := ⟨gl, k * 2, none⟩) BLq.out).trans p1q; clear hbuf))
            all_goals
              go_wp2_with fail
              go_roundw
              case rel => exact ⟨k + 1, by omega, by go_num, M ++ [Shr.mk x (.slice va sb.length vc) sb], by rw [dat_append]; exact hst.out, hv'⟩
              case measure => simp [intOf] <;> omega
          · have ki : ¬ (k : Int) < (A : Int) := by omega
            have hMs : dat M = sumsL (dat M1) (dat M2) := by rw [hM, List.take_of_length_le (by rw [hlenS.out]; omega)]
            have hMlen : M.length = A := by rw [← length_dat, hMs, hlenS.out]
            have hbl : ∀ u ∈ M, u.b.length ≤ 1000000 := by
              intro u hu
              obtain ⟨j, hj, e⟩ := List.getElem_of_mem hu
              have e2 : u = M.getD j zs := by simp [List.getD, hj, e]
              rw [e2, ← dB_dat, hMs]
              obtain ⟨a1, x1, a2, x2, s1, s2, x, eb1, eb2, ex, el1, el2, el40, _⟩ := hk1.out j (by omega)
              have : dB (sumsL (dat M1) (dat M2)) j = sumL (dB (dat M1) j) (dB (dat M2) j) := by
                have hj' : j < M1.length := by rw [HMl1.out]; omega
                simp [dB, sumsL, List.getD, length_dat, hj']
              rw [this, length_sumL, eb1]; omega
            obtain ⟨va, vc, ev, _, hshs⟩ := hF.shs
            have hBel := hF.buf.2.1
            rw [HBB.out] at hBel
            have hbw := below_of Hb7.out hBel Hb7.out.size
            have hv := HV7.out.below hBel HV7.out.lt
            have hd := HD7.out.below hBel HD7.out.lt
            have he := HE7.out.below hBel HE7.out.lt
            have v0 := hv.cell 0
            simp only [List.getElem?_toArray, List.getElem?_cons_zero, List.getElem?_cons_succ] at v0
            subst ev
            have hcb2 := comb_some va M A vc N (sumL s t) hMlen.symm n1 (by omega) (by omega) hbl wr hshs (by rw [hMs]; exact hlawS.out)
            rw [length_sumL, ← ES.out] at hcb2
            rw [hMlen]
            have HCB := Lib.hid hcb2
            have HBW := Lib.hid hbw
            have HV := Lib.hid hv
            have HD := Lib.hid hd
            have HE := Lib.hid he
            clear hF hM hMs hbl hshs hBel hbw hv hd he hcb2 hMlen hk
            go_wp2_with fail
            refine HCB.out.mono ?_
            rintro e w9 ⟨⟨g', rfl, hr9⟩, b9⟩
            have hd9 := HD.out.below b9 HD.out.lt
            have he9 := HE.out.below b9 HE.out.lt
            have HB9 := Lib.hid (below_of HBW.out b9 HBW.out.size)
            have c0 := hd9.cell 0
            have d0 := he9.cell 0
            simp only [dealC, List.getElem?_toArray, List.getElem?_cons_zero, List.getElem?_cons_succ] at c0 d0
            have HR9 := Lib.hid hr9
            clear hd9 he9 hr9 b9 v0
            go_wp2_with fail
            refine (sum_any asl bsl s t ls cs ct w9 ES.out ET.out (by omega) (HB1.out.below HB9.out (Nat.le_refl _)) (HB3.out.below HB9.out (Nat.le_refl _))).mono ?_
            rintro e w10 ⟨vs, rfl, hbuf⟩
            have HB10 := Lib.hid (below_of HB9.out hbuf.2.1 HB9.out.size)
            have HR10 := Lib.hid (HR9.out.below hbuf.2.1 HR9.out.lt)
            obtain ⟨sa, sc, ev, _, hsb⟩ := (hbuf.svx (r := none) (fun k hk => by cases hk)).sv
            subst ev
            have HSB := Lib.hid hsb
            clear hsb hbuf
            go_wp2_with fail
            have hsame := same_any (some ⟨g', 0, none⟩) sa (sumL s t) (sumL s t) ls sc w10 (by rw [length_sumL, ← ES.out]; omega) (by rw [length_sumL, ← ES.out]; omega) (Bs.of_row HR10.out) HSB.out
            rw [length_sumL, ← ES.out, decide_eq_true rfl] at hsame
            rw [length_sumL, ← ES.out]
            refine hsame.mono ?_
            clear hsame
            rintro e w11 ⟨rfl, nq, rfl⟩
            go_wp2_with fail
            go_ret
            exact ⟨rfl, below_drewN HB10.out nq⟩
      · have hl1 : ¬ (ls : Int) = (lt : Int) := by omega
        have hl2 : ((ls : Int) == (lt : Int)) = false := by simp; omega
        go_wp2_with (first | ((with_reducible show wpList _ _ _ (Oper.mk _ (Op.alloc _) _ _ _ _ :: _) _ _); refine wpList_alloc_row rfl 30 rfl _ Try.z30 g8 EG8.out ?_) | ((with_reducible show wpList _ _ _ (Oper.mk _ (Op.store _ _ _) _ _ _ _ :: _) _ _); (refine wpList_put_arr rfl 30 (.tmp 8) (.tmp 27) rfl rfl g8 30 _ #[.int .i64 N2, .int .i64 A2] rfl rfl (Row.new' _ _ EG8.out) Try.n30 rfl (one_w _ _) ?_; rw [setRow_new _ _ _ _ _ EG8.out, ← HW5.out])))
        go_ret
        exact ⟨rfl, Hb5.out⟩
end Go.Proofs.Ytpghdiklleedaaa
