/- The walk of ShareRefresh. -/
import Derived.Test.YtpghdiklleedaaaU
set_option linter.all false
namespace Go.Proofs.Ytpghdiklleedaaa
open Go.RowKit Go.Fen Gf
set_option maxHeartbeats 400000

theorem length_refreshL (D : Dat) (r : List (BitVec 8)) (need : Nat) : (refreshL D r need).length = D.length := by simp [refreshL]
theorem dX_refreshL (D : Dat) (r : List (BitVec 8)) (need k : Nat) (hk : k < D.length) : dX (refreshL D r need) k = dX D k := by simp [refreshL, dX, List.getD, hk]
theorem dB_refreshL (D : Dat) (r : List (BitVec 8)) (need k : Nat) (hk : k < D.length) : (dB (refreshL D r need) k).length = (dB D k).length := by simp [refreshL, dB, List.getD, hk, length_maskL]
theorem mem_getD {M : List Shr} {u : Shr} (hu : u ∈ M) : ∃ j, j < M.length ∧ u = M.getD j zs := by
  obtain ⟨j, hj, e⟩ := List.getElem_of_mem hu
  exact ⟨j, hj, by simp [List.getD, hj, e]⟩

set_option maxRecDepth 20000 in
set_option maxHeartbeats 4000000 in
theorem refresh_walk (asl ar ao : Option Addr) (s r o : List (BitVec 8)) (ls cs lr cr lo co p q : Nat) (els : ls = s.length) (elr : lr = r.length) (elo : lo = o.length) (hp : p < 256) (hq : q < 256) (w : World) (B1 : Bs w asl s) (B2 : Bs w ar r) (B3 : Bs w ao o) :
    Calls Try.prog 9 #[.agg #[.slice asl ls cs, .slice ar lr cr, .int .u8 p, .int .u8 q], .slice ao lo co] w fun e w' => e = .returned (.bool true) ∧ Below w.heap.size w w' := by
  obtain ⟨g, eg⟩ : ∃ g, g = w.heap.size := ⟨_, rfl⟩
  have hd := deal_row w asl ar ls cs lr cr p q
  rw [← eg] at hd
  have hb : Below w.heap.size w (w.alloc (.cells #[.slice asl ls cs, .slice ar lr cr, .int .u8 p, .int .u8 q] 29)) := (Below.refl _ _).alloc (Nat.le_refl _) _
  have HN := Lib.hid (And.intro (needN_pos p) (And.intro (needN_le p) (And.intro (allN_ge p q) (allN_le p q))))
  have HF := Lib.hid (fun W => fits_any asl ar ls lr cs cr p q hp hq W)
  generalize needN p = N at *
  generalize allN p q = A at *
  generalize hsm : decide (ls ≤ 40 ∧ lr ≤ 400) = sm at *
  have HSM := Lib.hid hsm
  have EG := Lib.hid eg
  have ES := Lib.hid els
  have ER := Lib.hid elr
  have EO := Lib.hid elo
  have HB1 := Lib.hid B1
  have HB2 := Lib.hid B2
  have HB3 := Lib.hid B3
  clear eg els elr elo B1 B2 B3 hsm
  go_enter Try.func9, Try.ntmps9
  go_wp2_with fail
  rw [← EG.out]
  obtain ⟨W0, hW0⟩ : ∃ W, W = w.alloc (.cells #[.slice asl ls cs, .slice ar lr cr, .int .u8 p, .int .u8 q] 29) := ⟨_, rfl⟩
  rw [← hW0] at hd hb ⊢
  clear hW0
  refine (sanity_any W0).mono ?_
  rintro e w1 ⟨rfl, b1⟩
  have HD1 := Lib.hid (hd.below b1 hd.lt)
  have Hb1 := Lib.hid (below_of hb b1 hb.size)
  clear hd hb b1
  go_wp2_with (first | ((with_reducible show wpList _ _ _ (Oper.mk _ (Op.load _ _) _ _ _ _ :: _) _ _); refine wpList_load_row rfl 29 (.tmp 2) rfl g rfl 29 (dealC asl ar ls cs lr cr p q) (0, 0) _ HD1.out Try.underlying29 rfl Try.n29 ?_))
  refine (HF.out w1).mono ?_
  rintro e w2 ⟨rfl, b2⟩
  obtain ⟨g6, eg6⟩ : ∃ g, g = w2.heap.size := ⟨_, rfl⟩
  obtain ⟨W3, hW3⟩ : ∃ W, W = w2.alloc (.cells #[.int .i64 N, .int .i64 A] 30) := ⟨_, rfl⟩
  have HV3 : Hid (Row W3 g6 30 #[.int .i64 N, .int .i64 A]) := Lib.hid (by rw [hW3]; exact Row.new' _ _ eg6)
  have hd3 : Row W3 g 29 (dealC asl ar ls cs lr cr p q) := by rw [hW3]; exact (HD1.out.below b2 HD1.out.lt).alloc _
  have Hb3 : Hid (Below w.heap.size w W3) := Lib.hid (by rw [hW3]; exact (below_of Hb1.out b2 Hb1.out.size).alloc (Nat.le_trans Hb1.out.size b2.size) _)
  have EG6 := Lib.hid eg6
  have HW3 := Lib.hid hW3
  have c0 := hd3.cell 0
  have c1 := hd3.cell 1
  simp only [dealC, List.getElem?_toArray, List.getElem?_cons_zero, List.getElem?_cons_succ] at c0 c1
  have HD3 := Lib.hid hd3
  clear b2 HD1 Hb1 eg6 hW3 hd3
  cases sm with
  | false =>
    go_wp2_with (first | ((with_reducible show wpList _ _ _ (Oper.mk _ (Op.alloc _) _ _ _ _ :: _) _ _); refine wpList_alloc_row rfl 30 rfl _ Try.z30 g6 EG6.out ?_) | ((with_reducible show wpList _ _ _ (Oper.mk _ (Op.store _ _ _) _ _ _ _ :: _) _ _); (refine wpList_put_arr rfl 30 (.tmp 6) (.tmp 22) rfl rfl g6 30 _ #[.int .i64 N, .int .i64 A] rfl rfl (Row.new' _ _ EG6.out) Try.n30 rfl (one_w _ _) ?_; rw [setRow_new _ _ _ _ _ EG6.out, ← HW3.out])))
    go_ret
    exact ⟨rfl, Hb3.out⟩
  | true =>
    by_cases hlo : lo ≤ 400
    · have hlo1 : ¬ (400 : Int) < (lo : Int) := by omega
      have hlo2 : decide ((400 : Int) < (lo : Int)) = false := decide_eq_false hlo1
      go_wp2_with (first | ((with_reducible show wpList _ _ _ (Oper.mk _ (Op.alloc _) _ _ _ _ :: _) _ _); refine wpList_alloc_row rfl 30 rfl _ Try.z30 g6 EG6.out ?_) | ((with_reducible show wpList _ _ _ (Oper.mk _ (Op.store _ _ _) _ _ _ _ :: _) _ _); (refine wpList_put_arr rfl 30 (.tmp 6) (.tmp 22) rfl rfl g6 30 _ #[.int .i64 N, .int .i64 A] rfl rfl (Row.new' _ _ EG6.out) Try.n30 rfl (one_w _ _) ?_; rw [setRow_new _ _ _ _ _ EG6.out, ← HW3.out])) | ((with_reducible show wpList _ _ _ (Oper.mk _ (Op.load _ _) _ _ _ _ :: _) _ _); refine wpList_load_row rfl 30 (.tmp 6) rfl g6 rfl 30 #[.int .i64 N, .int .i64 A] (0, 0) _ HV3.out Try.underlying30 rfl Try.n30 ?_))
      clear c0 c1
      have hsmT := of_decide_eq_true HSM.out
      obtain ⟨n1, n8, nA, n16⟩ := HN.out
      have hsp := split_any asl ar s r cs cr N A n1 nA (by omega) (by rw [← ES.out]; omega) (by rw [← ER.out]; omega) W3 (HB1.out.below Hb3.out (Nat.le_refl _)) (HB2.out.below Hb3.out (Nat.le_refl _))
      rw [← ES.out, ← ER.out] at hsp
      refine hsp.mono ?_
      clear hsp
      rintro e w6 ⟨gl, M1, rfl, hM, hMl, hSh, hgl, hrow, b6⟩
      have HD6 := Lib.hid (HD3.out.below b6 HD3.out.lt)
      have hv6 := HV3.out.below b6 HV3.out.lt
      have Hb6 := Lib.hid (below_of Hb3.out b6 Hb3.out.size)
      have v0 := hv6.cell 0
      simp only [List.getElem?_toArray, List.getElem?_cons_zero, List.getElem?_cons_succ] at v0
      have HV6 := Lib.hid hv6
      have HM1 := Lib.hid hM
      have HMl1 := Lib.hid hMl
      have HSh1 := Lib.hid hSh
      clear hv6 hM hMl hSh hgl hrow b6
      go_wp2_with fail
      clear v0
      have hlaw := law_refresh s r o N A n1 nA (by omega)
      have hbl1 : ∀ j, j < M1.length → (M1.getD j zs).b.length = ls := fun j hj => by rw [← dB_dat, HM1.out, split_dB _ _ _ _ _ (by rw [← HMl1.out]; exact hj), length_maskL, ES.out]
      have hrf := refresh_any (some ⟨gl, 0, none⟩) ao M1 o A co N n1 (by omega) (by rw [HMl1.out]; omega) (fun j hj => by rw [hbl1 j hj]; omega) (by rw [← EO.out]; omega) w6 HSh1.out (HB3.out.below Hb6.out (Nat.le_refl _))
      rw [HMl1.out, ← EO.out] at hrf
      refine hrf.mono ?_
      clear hrf
      rintro e w7 ⟨hor, b7⟩
      rcases hor with ⟨hwf, _⟩ | ⟨_, gm, M2, rfl, hM, hMl, hSh, hgl, hrow⟩
      · rw [HM1.out, hlaw.1] at hwf; cases hwf
      have HLaw := Lib.hid hlaw
      have HBL1 := Lib.hid hbl1
      have HD7 := Lib.hid (HD6.out.below b7 HD6.out.lt)
      have hv7 := HV6.out.below b7 HV6.out.lt
      have Hb7 := Lib.hid (below_of Hb6.out b7 Hb6.out.size)
      have v1 := hv7.cell 1
      simp only [List.getElem?_toArray, List.getElem?_cons_zero, List.getElem?_cons_succ] at v1
      have HV7 := Lib.hid hv7
      have HM2 := Lib.hid hM
      have HMl2 : Hid (M2.length = A) := Lib.hid (by rw [← HMl1.out]; first | exact hMl | (rw [HMl1.out]; exact hMl))
      have HSh2 := Lib.hid hSh
      have HSh17 := Lib.hid (HSh1.out.below b7 (Nat.le_refl _))
      clear hv7 hM hMl hSh hgl hrow b7 hlaw hbl1
      obtain ⟨B, hB⟩ : ∃ B, B = w7.heap.size := ⟨_, rfl⟩
      obtain ⟨W8, hW8⟩ : ∃ W, W = w7.alloc (.cells #[] 33) := ⟨_, rfl⟩
      have hF0 : BufF B (.slice (some ⟨B, 0, none⟩) 0 0) [] w7 W8 := by rw [hW8]; exact BufF.nil (BufS.lit0 hB (Below.refl _ _))
      have HBB := Lib.hid hB
      have HW8 := Lib.hid hW8
      clear hB hW8
      go_wp2_with fail
      rw [← HBB.out, ← HW8.out]
      clear v1
      have hS0 : Hid (dat ([] : List Shr) = (sumsL (dat M1) (dat M2)).take 0) := Lib.hid rfl
      have hlenS : Hid ((sumsL (dat M1) (dat M2)).length = A) := Lib.hid (by rw [length_sumsL, length_dat, HMl1.out])
      have hk1 : Hid (∀ k, k < A → ∃ a1 x1 a2 x2 b1 b2 x, dB (dat M1) k = b1 ∧ dB (dat M2) k = b2 ∧ dX (dat M1) k = x ∧ b1.length = ls ∧ b2.length = ls ∧ b1.length ≤ 40 ∧ Bs w7 a1 b1 ∧ Bs w7 a2 b2 ∧ w7.cell? ⟨gl, k * 2, none⟩ = some (.int .u8 x.toNat) ∧ w7.cell? ⟨gl, k * 2 + 1, none⟩ = some (.slice a1 ls x1) ∧ w7.cell? ⟨gm, k * 2, none⟩ = some (.int .u8 x.toNat) ∧ w7.cell? ⟨gm, k * 2 + 1, none⟩ = some (.slice a2 ls x2)) := Lib.hid fun k hk => by
        have hk' : k < (dat M1).length := by rw [length_dat, HMl1.out]; exact hk
        have e1 : (M1.getD k zs).b.length = ls := HBL1.out k (by rw [HMl1.out]; exact hk)
        have e2 : (M2.getD k zs).b.length = ls := by rw [← dB_dat, HM2.out, dB_refreshL _ _ _ _ hk', dB_dat, e1]
        have ex2 : (M2.getD k zs).x = (M1.getD k zs).x := by rw [← dX_dat, HM2.out, dX_refreshL _ _ _ _ hk', dX_dat]
        obtain ⟨a1, x1, p1, p2, _, p3⟩ := Shs.at HSh17.out k (by rw [HMl1.out]; exact hk) _ rfl _ rfl
        obtain ⟨a2, x2, q1, q2, _, q3⟩ := Shs.at HSh2.out k (by rw [HMl2.out]; exact hk) _ rfl _ ex2
        rw [e1] at p2
        rw [e2] at q2
        exact ⟨a1, x1, a2, x2, _, _, _, dB_dat M1 k, dB_dat M2 k, dX_dat M1 k, e1, e2, by omega, p3, q3, p1, p2, q1, q2⟩
      go_loopw [4, 12, 13] (fun z v i wr => ∃ k : Nat, k ≤ A ∧ i = .int .i64 k ∧ ∃ M, dat M = (sumsL (dat M1) (dat M2)).take k ∧ BufF B v M w7 wr) (fun _ _ i _ => A - (intOf i).toNat)
      case atStart => exact ⟨0, by omega, rfl, [], hS0.out, hF0⟩
      case round =>
        clear hF0
        obtain ⟨k, hk, rfl, M, hM, hF⟩ := hrel
        by_cases hkA : k < A
        · have ki : (k : Int) < (A : Int) := by omega
          obtain ⟨a1, x1, a2, x2, s1, s2, x, eb1, eb2, ex, el1, el2, el40, Q1, Q2, p1, p2, q1, q2⟩ := hk1.out k hkA
          have blt : ∀ {a : Addr} {v : Value}, w7.cell? a = some v → a.block < B := fun h => by rw [HBB.out]; exact block_lt_of_cell h
          have p1' := (hF.buf.2.1.cell (blt p1)).trans p1
          have p2' := (hF.buf.2.1.cell (blt p2)).trans p2
          have q1' := (hF.buf.2.1.cell (blt q1)).trans q1
          have q2' := (hF.buf.2.1.cell (blt q2)).trans q2
          have hd := HD7.out.below hF.buf.2.1 (by rw [HBB.out]; exact HD7.out.lt)
          have c0 := hd.cell 0
          simp only [dealC, List.getElem?_toArray, List.getElem?_cons_zero, List.getElem?_cons_succ] at c0
          have hst : Hid (dat M ++ [(x, sumL s1 s2)] = (sumsL (dat M1) (dat M2)).take (k + 1)) := Lib.hid (by rw [sumsL_take _ _ _ (by rw [length_dat, HMl1.out]; exact hkA), hM, eb1, eb2, ex])
          have hMlen : M.length = k := by rw [← length_dat, hM, List.length_take, hlenS.out]; omega
          have HSum : Hid (∀ W, Below B w7 W → Calls Try.prog 27 #[.slice a1 ls x1, .slice a2 ls x2] W fun e w' => ∃ v, e = .returned v ∧ BufB W.heap.size v (sumL s1 s2) W w') := Lib.hid fun W hW => sum_any a1 a2 s1 s2 ls x1 x2 W el1.symm el2.symm (by omega) (Q1.below hW (Nat.le_of_eq HBB.out.symm)) (Q2.below hW (Nat.le_of_eq HBB.out.symm))
          have HF := Lib.hid hF
          have HML := Lib.hid hMlen
          have P1 := Lib.hid p1
          have BLT := Lib.hid (blt p1)
          generalize sumL s1 s2 = sb at *
          clear hF hM eb1 eb2 ex el1 el2 el40 Q1 Q2 p1 p2 q1 q2 blt hd hMlen hkA
          go_wp2_with fail
          go_quiet (fail)
          go_wp2_with fail
          have hF2 : BufF B u12 M w7 (wr.drewN nq) := HF.out.drewN nq
          have p1q : (wr.drewN nq).cell? ⟨gl, k * 2, none⟩ = some (.int .u8 x.toNat) := p1'
          have p2q : (wr.drewN nq).cell? ⟨gl, k * 2 + 1, none⟩ = some (.slice a1 ls x1) := p2'
          have q2q : (wr.drewN nq).cell? ⟨gm, k * 2 + 1, none⟩ = some (.slice a2 ls x2) := q2'
          clear HF p1' p2' q1' q2' c0
          generalize wr.drewN nq = Wq at *
          clear wr
          have HF2 := Lib.hid hF2.drew
          have BLq := Lib.hid (Nat.lt_of_lt_of_le BLT.out hF2.buf.2.2)
          clear hF2
          go_region_law (first | (refine step_pushF rfl (.tmp 111) (.tmp 129) rfl B u12 M rfl w7 w' _ (Shr.mk x (.slice va sb.length vc) sb) hS rfl hF3 w'.heap.size rfl rfl (by rw [HML.out]; omega) (fun v' w'' hv' hg => ?_)) | (go_simp; go_at_call 27; refine (HSum.out Wq.drew HF2.out.buf.2.1).mono ?_; rintro e w' ⟨vs, rfl, hbuf⟩; have hF3 := HF2.out.call hbuf.2.1; have hS := hbuf.svx HF2.out.own_lt; obtain ⟨va, vc, ev, _⟩ := id hS; subst ev; have p1w : w'.cell? ⟨gl, k * 2, none⟩ = some (.int .u8 x.toNat) := (hbuf.2.1.cell (p := ⟨gl, k * 2, none⟩) BLq.out).trans p1q; clear hbuf))
          all_goals
            go_wp2_with fail
            go_roundw
            case rel => exact ⟨k + 1, by omega, by go_num, M ++ [Shr.mk x (.slice va sb.length vc) sb], by rw [dat_append]; exact hst.out, hv'⟩
            case measure => simp [intOf] <;> omega
        · have ki : ¬ (k : Int) < (A : Int) := by omega
          have hMs : dat M = sumsL (dat M1) (dat M2) := by rw [hM, List.take_of_length_le (by rw [hlenS.out]; omega)]
          have hMlen : M.length = A := by rw [← length_dat, hMs, hlenS.out]
          have hbl : ∀ u ∈ M, u.b.length ≤ 1000000 := by
            intro u hu
            obtain ⟨j, hj, e2⟩ := mem_getD hu
            rw [e2, ← dB_dat, hMs]
            obtain ⟨a1, x1, a2, x2, s1, s2, x, eb1, eb2, ex, el1, el2, el40, _⟩ := hk1.out j (by omega)
            have : dB (sumsL (dat M1) (dat M2)) j = sumL (dB (dat M1) j) (dB (dat M2) j) := by
              have hj' : j < M1.length := by rw [HMl1.out]; omega
              simp [dB, sumsL, List.getD, length_dat, hj']
            rw [this, length_sumL, eb1]; omega
          have hbl2 : ∀ u ∈ M2, u.b.length ≤ 1000000 := by
            intro u hu
            obtain ⟨j, hj, e2⟩ := mem_getD hu
            obtain ⟨a1, x1, a2, x2, s1, s2, x, eb1, eb2, ex, el1, el2, el40, _⟩ := hk1.out j (by rw [← HMl2.out]; exact hj)
            rw [e2, ← dB_dat, eb2]; omega
          obtain ⟨va, vc, ev, _, hshs⟩ := hF.shs
          subst ev
          have hBel := hF.buf.2.1
          rw [HBB.out] at hBel
          have hbw := below_of Hb7.out hBel Hb7.out.size
          have hv := HV7.out.below hBel HV7.out.lt
          have HD := Lib.hid (HD7.out.below hBel HD7.out.lt)
          have v0 := hv.cell 0
          simp only [List.getElem?_toArray, List.getElem?_cons_zero, List.getElem?_cons_succ] at v0
          have hl2 : combR (dat M2) N = some s := by rw [HM2.out, HM1.out]; exact HLaw.out.2.1
          have hl3 : combR (dat M) N = some (List.replicate ls 0#8) := by rw [hMs, HM2.out, HM1.out, ES.out]; exact HLaw.out.2.2
          have hcb := comb_some (some ⟨gm, 0, none⟩) M2 A A N s HMl2.out.symm n1 (by omega) (by rw [HMl2.out]; omega) hbl2 wr (HSh2.out.below hBel (Nat.le_refl _)) hl2
          rw [← ES.out] at hcb
          have hcb2 := fun W hsh => comb_some va M A vc N (List.replicate ls 0#8) hMlen.symm n1 (by omega) (by omega) hbl W hsh hl3
          rw [List.length_replicate] at hcb2
          rw [hMlen]
          have HCB := Lib.hid hcb
          have HCB2 := Lib.hid hcb2
          have HBW := Lib.hid hbw
          have HV := Lib.hid hv
          have HSHS := Lib.hid hshs
          clear hF hM hMs hbl hbl2 hshs hBel hbw hv hcb hcb2 hMlen hk hl2 hl3
          go_wp2_with fail
          refine HCB.out.mono ?_
          rintro e w9 ⟨⟨g', rfl, hr9⟩, b9⟩
          have HD9 := Lib.hid (HD.out.below b9 HD.out.lt)
          have hv9 := HV.out.below b9 HV.out.lt
          have HB9 := Lib.hid (below_of HBW.out b9 HBW.out.size)
          have v0' := hv9.cell 0
          simp only [List.getElem?_toArray, List.getElem?_cons_zero, List.getElem?_cons_succ] at v0'
          have HR9 := Lib.hid hr9
          have HSHS9 := Lib.hid (HSHS.out.below b9 (Nat.le_refl _))
          clear hv9 hr9 b9 v0
          go_wp2_with fail
          refine (HCB2.out w9 HSHS9.out).mono ?_
          rintro e w10 ⟨⟨g2, rfl, hr10⟩, b10⟩
          have hd10 := HD9.out.below b10 HD9.out.lt
          have HB10 := Lib.hid (below_of HB9.out b10 HB9.out.size)
          have c0 := hd10.cell 0
          simp only [dealC, List.getElem?_toArray, List.getElem?_cons_zero, List.getElem?_cons_succ] at c0
          have HR10 := Lib.hid (HR9.out.below b10 HR9.out.lt)
          have HR2 := Lib.hid hr10
          have HD10 := Lib.hid hd10
          clear hd10 hr10 b10 v0'
          go_wp2_with fail
          have hsame := same_any (some ⟨g', 0, none⟩) asl s s ls cs w10 (by rw [← ES.out]; omega) (by rw [← ES.out]; omega) (Bs.of_row HR10.out) (HB1.out.below HB10.out (Nat.le_refl _))
          rw [← ES.out, decide_eq_true rfl] at hsame
          refine hsame.mono ?_
          clear hsame
          rintro e w11 ⟨rfl, nq, rfl⟩
          have hmk := run_make_row' (P := Try.prog) 27 5 (.int .u8 0) 1 Try.underlying27 Try.info5 rfl .i64 .i64 ls (by omega) (by omega)
          rw [madeB] at hmk
          go_wp2_with fail
          have hsame := same_any (some ⟨g2, 0, none⟩) (some ⟨w10.heap.size, 0, none⟩) (List.replicate ls 0#8) (List.replicate ls 0#8) ls ls ((w10.drewN nq).alloc (.cells (bcells (List.replicate ls 0#8)) 5)) (by rw [List.length_replicate]; omega) (by rw [List.length_replicate]; omega) (Bs.of_row ((HR2.out.drewN nq).alloc _)) (Bs.of_row (Row.new' _ _ rfl))
          rw [List.length_replicate, decide_eq_true rfl] at hsame
          refine hsame.mono ?_
          clear hsame
          rintro e w12 ⟨rfl, nq2, rfl⟩
          go_wp2_with fail
          go_ret
          exact ⟨rfl, below_drewN ((below_drewN HB10.out nq).alloc HB10.out.size _) nq2⟩
    · have hlo1 : (400 : Int) < (lo : Int) := by omega
      have hlo2 : decide ((400 : Int) < (lo : Int)) = true := decide_eq_true hlo1
      go_wp2_with (first | ((with_reducible show wpList _ _ _ (Oper.mk _ (Op.alloc _) _ _ _ _ :: _) _ _); refine wpList_alloc_row rfl 30 rfl _ Try.z30 g6 EG6.out ?_) | ((with_reducible show wpList _ _ _ (Oper.mk _ (Op.store _ _ _) _ _ _ _ :: _) _ _); (refine wpList_put_arr rfl 30 (.tmp 6) (.tmp 22) rfl rfl g6 30 _ #[.int .i64 N, .int .i64 A] rfl rfl (Row.new' _ _ EG6.out) Try.n30 rfl (one_w _ _) ?_; rw [setRow_new _ _ _ _ _ EG6.out, ← HW3.out])))
      go_ret
      exact ⟨rfl, Hb3.out⟩
end Go.Proofs.Ytpghdiklleedaaa
