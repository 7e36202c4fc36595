/- The walk of ShareSecret. -/
import Derived.Test.YtpghdiklleedaaaEz
import Derived.Test.YtpghdiklleedaaaU
set_option linter.all false
namespace Go.Proofs.Ytpghdiklleedaaa
open Go.RowKit Go.Fen Gf
set_option maxHeartbeats 400000

theorem Shs.take {w : World} {a : Option Addr} {L : List Shr} (h : Shs w a L) (n : Nat) : Shs w a (L.take n) := by
  have hg : ∀ i, i < (L.take n).length → i < L.length ∧ (L.take n).getD i zs = L.getD i zs := fun i hi => by
    rw [List.length_take] at hi
    exact ⟨by omega, by simp [List.getD, List.getElem?_take, show i < n by omega]⟩
  refine ⟨?_, fun i hi => by rw [(hg i hi).2]; exact h.svs i (hg i hi).1⟩
  rcases h.cells with h0 | ⟨g, o, ea, hc⟩
  · exact .inl (by rw [h0]; simp)
  · exact .inr ⟨g, o, ea, fun i hi => by rw [(hg i hi).2]; exact hc i (hg i hi).1⟩
/-- what is known of a selection that was cut -/
theorem chosen_take (s r : List (BitVec 8)) (N A t : Nat) (h1 : 1 ≤ N) (h2 : N ≤ A) (h3 : A ≤ 254) (o : List (BitVec 8)) :
    (xsOf ((chooseL (splitL s r N A) o).take t)).Nodup ∧ ∀ k, k < ((chooseL (splitL s r N A) o).take t).length → (∃ i, i < A ∧ dX ((chooseL (splitL s r N A) o).take t) k = BitVec.ofNat 8 (i + 1)) ∧ (dB ((chooseL (splitL s r N A) o).take t) k).length = s.length := by
  have hok := chooseI_ok A (by omega) o [] (by simp) (by simp)
  have e : (chooseL (splitL s r N A) o).take t = byIdx (fun i => maskL s r N (BitVec.ofNat 8 (i + 1))) ((chooseI A o []).take t) := by
    rw [splitL_byIdx, choose_byIdx _ _ (by omega), byIdx, byIdx, List.map_take]
  rw [e]
  have hlt : ∀ i ∈ (chooseI A o []).take t, i < A := fun i hi => hok.2 i (List.mem_of_mem_take hi)
  refine ⟨xs_byIdx_nodup _ _ (hok.1.sublist (List.take_sublist _ _)) (fun i hi => by have := hlt i hi; omega), fun k hk => ?_⟩
  rw [length_byIdx] at hk
  refine ⟨⟨_, hlt _ (List.getElem_mem hk), dX_byIdx _ _ _ hk⟩, by rw [dB_byIdx _ _ _ hk, length_maskL]⟩

set_option maxRecDepth 20000 in
set_option maxHeartbeats 20000000 in
theorem secret_walk (asl ar aq ao : Option Addr) (s r q o : List (BitVec 8)) (ls cs lr cr lq cq lo co p n0 : Nat) (els : ls = s.length) (elr : lr = r.length) (elq : lq = q.length) (elo : lo = o.length) (hp : p < 256) (hn0 : n0 < 256) (w : World) (B1 : Bs w asl s) (B2 : Bs w ar r) (B4 : Bs w aq q) (B3 : Bs w ao o) :
    Calls Try.prog 7 #[.agg #[.slice asl ls cs, .slice ar lr cr, .int .u8 p, .int .u8 n0], .slice aq lq cq, .slice ao lo co] w fun e w' => e = .returned (.bool true) ∧ Below w.heap.size w w' := by
  obtain ⟨g, eg⟩ : ∃ g, g = w.heap.size := ⟨_, rfl⟩
  have hd := deal_row w asl ar ls cs lr cr p n0
  rw [← eg] at hd
  have hb : Below w.heap.size w (w.alloc (.cells #[.slice asl ls cs, .slice ar lr cr, .int .u8 p, .int .u8 n0] 29)) := (Below.refl _ _).alloc (Nat.le_refl _) _
  have HN := Lib.hid (And.intro (needN_pos p) (And.intro (needN_le p) (And.intro (allN_ge p n0) (allN_le p n0))))
  have HF := Lib.hid (fun W => fits_any asl ar ls lr cs cr p n0 hp hn0 W)
  generalize needN p = N at *
  generalize allN p n0 = A at *
  generalize hsm : decide (ls ≤ 40 ∧ lr ≤ 400) = sm at *
  have HSM := Lib.hid hsm
  have EG := Lib.hid eg
  have ES := Lib.hid els
  have ER := Lib.hid elr
  have EQ := Lib.hid elq
  have EO := Lib.hid elo
  have HB1 := Lib.hid B1
  have HB2 := Lib.hid B2
  have HB3 := Lib.hid B3
  have HB4 := Lib.hid B4
  clear eg els elr elq elo B1 B2 B3 B4 hsm
  go_enter Try.func7, Try.ntmps7
  go_wp2_with fail
  rw [← EG.out]
  obtain ⟨W0, hW0⟩ : ∃ W, W = w.alloc (.cells #[.slice asl ls cs, .slice ar lr cr, .int .u8 p, .int .u8 n0] 29) := ⟨_, rfl⟩
  rw [← hW0] at hd hb ⊢
  clear hW0
  refine (sanity_any W0).mono ?_
  rintro e w1 ⟨rfl, b1⟩
  have HD1 := Lib.hid (hd.below b1 hd.lt)
  have Hb1 := Lib.hid (below_of hb b1 hb.size)
  clear hd hb b1
  go_wp2_with (first | ((with_reducible show wpList _ _ _ (Oper.mk _ (Op.load _ _) _ _ _ _ :: _) _ _); refine wpList_load_row rfl 29 (.tmp 3) rfl g rfl 29 (dealC asl ar ls cs lr cr p n0) (0, 0) _ HD1.out Try.underlying29 rfl Try.n29 ?_))
  refine (HF.out w1).mono ?_
  rintro e w2 ⟨rfl, b2⟩
  obtain ⟨g6, eg6⟩ : ∃ g, g = w2.heap.size := ⟨_, rfl⟩
  obtain ⟨W3, hW3⟩ : ∃ W, W = w2.alloc (.cells #[.int .i64 N, .int .i64 A] 30) := ⟨_, rfl⟩
  have HV3 : Hid (Row W3 g6 30 #[.int .i64 N, .int .i64 A]) := Lib.hid (by rw [hW3]; exact Row.new' _ _ eg6)
  have hd3 : Row W3 g 29 (dealC asl ar ls cs lr cr p n0) := by rw [hW3]; exact (HD1.out.below b2 HD1.out.lt).alloc _
  have Hb3 : Hid (Below w.heap.size w W3) := Lib.hid (by rw [hW3]; exact (below_of Hb1.out b2 Hb1.out.size).alloc (Nat.le_trans Hb1.out.size b2.size) _)
  have EG6 := Lib.hid eg6
  have HW3 := Lib.hid hW3
  have c0 := hd3.cell 0
  have c1 := hd3.cell 1
  simp only [dealC, List.getElem?_toArray, List.getElem?_cons_zero, List.getElem?_cons_succ] at c0 c1
  have HD3 := Lib.hid hd3
  clear b2 HD1 Hb1 eg6 hW3 hd3
  cases sm with
  | false =>
    go_wp2_with (first | ((with_reducible show wpList _ _ _ (Oper.mk _ (Op.alloc _) _ _ _ _ :: _) _ _); refine wpList_alloc_row rfl 30 rfl _ Try.z30 g6 EG6.out ?_) | ((with_reducible show wpList _ _ _ (Oper.mk _ (Op.store _ _ _) _ _ _ _ :: _) _ _); (refine wpList_put_arr rfl 30 (.tmp 8) (.tmp 22) rfl rfl g6 30 _ #[.int .i64 N, .int .i64 A] rfl rfl (Row.new' _ _ EG6.out) Try.n30 rfl (one_w _ _) ?_; rw [setRow_new _ _ _ _ _ EG6.out, ← HW3.out])))
    go_ret
    exact ⟨rfl, Hb3.out⟩
  | true =>
    by_cases hll : lq = ls
    · subst hll
      by_cases hlo : lo ≤ 100
      · have hlo1 : ¬ (100 : Int) < (lo : Int) := by omega
        have hlo2 : decide ((100 : Int) < (lo : Int)) = false := decide_eq_false hlo1
        go_wp2_with (first | ((with_reducible show wpList _ _ _ (Oper.mk _ (Op.alloc _) _ _ _ _ :: _) _ _); refine wpList_alloc_row rfl 30 rfl _ Try.z30 g6 EG6.out ?_) | ((with_reducible show wpList _ _ _ (Oper.mk _ (Op.store _ _ _) _ _ _ _ :: _) _ _); (refine wpList_put_arr rfl 30 (.tmp 8) (.tmp 22) rfl rfl g6 30 _ #[.int .i64 N, .int .i64 A] rfl rfl (Row.new' _ _ EG6.out) Try.n30 rfl (one_w _ _) ?_; rw [setRow_new _ _ _ _ _ EG6.out, ← HW3.out])) | ((with_reducible show wpList _ _ _ (Oper.mk _ (Op.load _ _) _ _ _ _ :: _) _ _); refine wpList_load_row rfl 30 (.tmp 8) rfl g6 rfl 30 #[.int .i64 N, .int .i64 A] (0, 0) _ HV3.out Try.underlying30 rfl Try.n30 ?_))
        clear c0 c1
        have hsmT := of_decide_eq_true HSM.out
        obtain ⟨n1, n8, nA, n16⟩ := HN.out
        have hsp := split_any asl ar s r cs cr N A n1 nA (by omega) (by rw [← ES.out]; omega) (by rw [← ER.out]; omega) W3 (HB1.out.below Hb3.out (Nat.le_refl _)) (HB2.out.below Hb3.out (Nat.le_refl _))
        rw [← ES.out, ← ER.out] at hsp
        refine hsp.mono ?_
        clear hsp
        rintro e w6 ⟨gl, M, rfl, hM, hMl, hSh, hgl, hrow, b6⟩
        have hv6 := HV3.out.below b6 HV3.out.lt
        have Hb6 := Lib.hid (below_of Hb3.out b6 Hb3.out.size)
        have v1 := hv6.cell 1
        simp only [List.getElem?_toArray, List.getElem?_cons_zero, List.getElem?_cons_succ] at v1
        have HV6 := Lib.hid hv6
        have HM := Lib.hid hM
        have HMl := Lib.hid hMl
        have HSh := Lib.hid hSh
        clear hv6 hM hMl hSh hgl hrow b6
        go_wp2_with fail
        clear v1
        have hch := choose_any (some ⟨gl, 0, none⟩) ao M o A co (by rw [HMl.out]; omega) (by rw [← EO.out]; omega) w6 HSh.out (HB3.out.below Hb6.out (Nat.le_refl _))
        rw [HMl.out, ← EO.out] at hch
        refine hch.mono ?_
        clear hch
        rintro e w5 ⟨a', c', rfl, hc', hsh5, b5⟩
        have hv5 := HV6.out.below b5 HV6.out.lt
        have Hb5 := Lib.hid (below_of Hb6.out b5 Hb6.out.size)
        have v0 := hv5.cell 0
        simp only [List.getElem?_toArray, List.getElem?_cons_zero, List.getElem?_cons_succ] at v0
        have HV5 := Lib.hid hv5
        have hS : dat (chooseS M o) = chooseL (splitL s r N A) o := by rw [dat_chooseS, HM.out]
        generalize chooseS M o = S at *
        obtain ⟨N1, hN1⟩ : ∃ N1, N1 = N - 1 := ⟨_, rfl⟩
        have hni : (N : Int) - 1 = (N1 : Int) := by omega
        have hchos := chosen_take s r N A N1 n1 nA (by omega) o
        rw [← hS, ← dat_take] at hchos
        have HN1 := Lib.hid hN1
        have HCH := Lib.hid hchos
        have HS5 := Lib.hid hsh5
        clear hv5 b5 hS hchos hsh5 hN1
        by_cases hfew : N ≤ S.length
        · have hfi : (N : Int) ≤ (S.length : Int) := by omega
          obtain ⟨S', hS'⟩ : ∃ S', S' = S.take N1 := ⟨_, rfl⟩
          obtain ⟨K, hK⟩ : ∃ K, K = S'.length := ⟨_, rfl⟩
          have hK1 : K = N1 := by rw [hK, hS', List.length_take]; have := HN1.out; omega
          have HSH : Hid (Shs w5 a' S') := Lib.hid (by rw [hS']; exact HS5.out.take N1)
          rw [← hS'] at HCH
          have hsl := fun W => run_slice_hi2 W a' S.length c' N1 (by have := HN1.out; omega)
          have HK := Lib.hid hK
          have hK2 : K ≤ N1 := Nat.le_of_eq hK1
          have HSL := Lib.hid hsl
          have HK1 := Lib.hid hK1
          clear hS' hK hsl hK1
          go_wp2_with (first | ((with_reducible show wpList _ _ _ (Oper.mk _ (Op.slice _ _ _ _ _) _ _ _ _ :: _) _ _); refine wpList_slice_run rfl 31 (.tmp 66) none (some (.tmp 69)) rfl rfl rfl rfl (HSL.out _) ?_))
          rw [← HK1.out]
          clear v0
          have hsmT2 := hsmT.1
          have hbl : ∀ j, j < S'.length → (S'.getD j zs).b.length ≤ 1000000 := fun j hj => by rw [← dB_dat, (HCH.out.2 j (by rw [length_dat]; exact hj)).2, ← ES.out]; omega
          obtain ⟨n, hn⟩ : ∃ n, n = lq * N1 := ⟨_, rfl⟩
          have hex := explain_any aq a' q S' lq cq K c' N N1 n EQ.out HK.out HN1.out hn n1 n8 hsmT2 hK2 hbl w5 (HB4.out.below Hb5.out (Nat.le_refl _)) HSH.out
          have hn1000 : n ≤ 1000 := by rw [hn]; have := Nat.mul_le_mul hsmT2 (show N1 ≤ 7 by have := HN1.out; omega); omega
          have HNN := Lib.hid hn
          refine hex.mono ?_
          clear hex hn
          rintro e w7 ⟨gr, rfl, hrr, b7⟩
          have HV7 := Lib.hid (HV5.out.below b7 HV5.out.lt)
          have Hb7 := Lib.hid (below_of Hb5.out b7 Hb5.out.size)
          have HSH7 := Lib.hid (HSH.out.below b7 (Nat.le_refl _))
          obtain ⟨rnd, hrnd⟩ : ∃ x, x = explL q (dat S') N := ⟨_, rfl⟩
          rw [← hrnd] at hrr
          have hrl : rnd.length = n := by rw [hrnd, length_explL, ← EQ.out, ← HN1.out, HNN.out]
          have HRR := Lib.hid hrr
          have HRND := Lib.hid hrnd
          have HRL := Lib.hid hrl
          clear b7 hrr hrnd hrl
          go_wp2_with (first | ((with_reducible show wpList _ _ _ (Oper.mk _ (Op.load _ _) _ _ _ _ :: _) _ _); refine wpList_load_row rfl 30 (.tmp 8) rfl g6 rfl 30 #[.int .i64 N, .int .i64 A] (0, 0) _ HV7.out Try.underlying30 rfl Try.n30 ?_))
          have hsp := split_any aq (some ⟨gr, 0, none⟩) q rnd cq n N A n1 nA (by omega) (by rw [← EQ.out]; omega) (by rw [HRL.out]; omega) w7 (HB4.out.below Hb7.out (Nat.le_refl _)) (Bs.of_row HRR.out)
          rw [← EQ.out, HRL.out] at hsp
          refine hsp.mono ?_
          clear hsp
          rintro e w8 ⟨gm, M2, rfl, hM2, hM2l, hSh2, hgm, hrow2, b8⟩
          have hv8 := HV7.out.below b8 HV7.out.lt
          have Hb8 := Lib.hid (below_of Hb7.out b8 Hb7.out.size)
          have v1 := hv8.cell 1
          simp only [List.getElem?_toArray, List.getElem?_cons_zero, List.getElem?_cons_succ] at v1
          have HSH8 := Lib.hid (HSH7.out.below b8 (Nat.le_refl _))
          -- what is read of share k, and of its explanation
          have hk1 : Hid (∀ k, k < K → ∃ ga oa ak ck i bk am cm, a' = some ⟨ga, oa, none⟩ ∧ i < A ∧ bk.length = lq ∧ Bs w8 ak bk ∧ Bs w8 am bk ∧ w8.cell? ⟨ga, oa + k * 2, none⟩ = some (.int .u8 ((i : Int) + 1)) ∧ w8.cell? ⟨ga, oa + k * 2 + 1, none⟩ = some (.slice ak lq ck) ∧ w8.cell? ⟨gm, i * 2 + 1, none⟩ = some (.slice am lq cm)) := Lib.hid fun k hk => by
            have hk' : k < S'.length := by rw [← HK.out]; exact hk
            obtain ⟨⟨i, hi, hx⟩, hlen⟩ := HCH.out.2 k (by rw [length_dat]; exact hk')
            have hlaw := law_secret (dat S') q N k n1 (by rw [length_dat, ← HK.out, ← HN1.out]; exact hK2) HCH.out.1 (fun j hj => by obtain ⟨⟨i', hi', hx'⟩, _⟩ := HCH.out.2 j hj; rw [hx']; exact ofNat_ne (by omega)) (by rw [length_dat]; exact hk') (by rw [hlen, ← ES.out, EQ.out])
            rw [← HRND.out, hx, ← split_dB q rnd N A i hi, ← hM2] at hlaw
            rcases HSH8.out.cells with h | ⟨ga, oa, ea, hc⟩
            · rw [h] at hk'; simp at hk'
            · obtain ⟨ak, ck, ev, _, hbs⟩ := HSH8.out.svs k hk'
              obtain ⟨p1, p2⟩ := hc k hk'
              obtain ⟨am, cm, _, q2, _, q3⟩ := Shs.at hSh2 i (by rw [hM2l]; exact hi) _ rfl _ rfl
              have e1 : (S'.getD k zs).b.length = lq := by rw [← dB_dat, hlen, ← ES.out]
              have e2 : (M2.getD i zs).b = (S'.getD k zs).b := by rw [← dB_dat, ← dB_dat, hlaw]
              rw [ev, e1] at p2
              rw [e2] at q2 q3
              rw [e1] at q2
              refine ⟨ga, oa, ak, ck, i, (S'.getD k zs).b, am, cm, ea, hi, e1, hbs, q3, ?_, p2, q2⟩
              rw [p1, ← dX_dat, hx, BitVec.toNat_ofNat, Nat.mod_eq_of_lt (by omega)]
              rfl
          clear hv8 hM2 hM2l hSh2 hgm hrow2 b8
          go_wp2_with fail
          clear v1
          go_loopw [16] (fun ik wr => ∃ k : Nat, k ≤ K ∧ ik = .int .i64 k ∧ ∃ q, wr = w8.drewN q) (fun ik _ => K - (intOf ik).toNat)
          case atStart => exact ⟨0, by omega, rfl, 0, rfl⟩
          case round =>
            obtain ⟨k, hk, rfl, q9, rfl⟩ := hrel
            by_cases hkK : k < K
            · have ki : (k : Int) < (K : Int) := by omega
              obtain ⟨ga, oa, ak, ck, i, bk, am, cm, ea, hi, hbl2, b1, b2, p1, p2, q2⟩ := hk1.out k hkK
              subst ea
              have ii : (i : Int) < (A : Int) := by omega
              have i16 : (i : Int) ≤ 16 := by omega
              have ix1 : ¬ (i : Int) + 1 < 1 := by omega
              have ix2 : ¬ (A : Int) < (i : Int) + 1 := by omega
              have ix3 : decide ((i : Int) + 1 < 1) = false := decide_eq_false ix1
              have ix4 : decide ((A : Int) < (i : Int) + 1) = false := decide_eq_false ix2
              obtain ⟨wr, hwr⟩ : ∃ W, W = w8.drewN q9 := ⟨_, rfl⟩
              have p1' : wr.cell? ⟨ga, oa + k * 2, none⟩ = some (.int .u8 ((i : Int) + 1)) := by rw [hwr]; exact p1
              have p2' : wr.cell? ⟨ga, oa + k * 2 + 1, none⟩ = some (.slice ak lq ck) := by rw [hwr]; exact p2
              have q2' : wr.cell? ⟨gm, i * 2 + 1, none⟩ = some (.slice am lq cm) := by rw [hwr]; exact q2
              have HSame : Hid (∀ n, Calls Try.prog 23 #[.slice am lq cm, .slice ak lq ck] (wr.drewN n) fun e w' => e = .returned (.bool true) ∧ ∃ m, w' = (wr.drewN n).drewN m) := Lib.hid fun n => by
                have := same_any am ak bk bk cm ck (wr.drewN n) (by omega) (by omega) (by rw [hwr]; exact (b2.below (below_drewN (below_drewN (Below.refl _ _) _) _) (Nat.le_refl _))) (by rw [hwr]; exact (b1.below (below_drewN (below_drewN (Below.refl _ _) _) _) (Nat.le_refl _)))
                rw [hbl2, decide_eq_true rfl] at this
                exact this
              have HWR := Lib.hid hwr
              rw [← hwr]
              clear p1 p2 q2 b1 b2 hbl2 hi hkK hwr
              go_wp2_with fail
              go_quiet (first | (go_at_call 23; exact Calls.quiet_of (HSame.out _)))
              go_wp2_with fail
              go_roundw
              case rel => exact ⟨k + 1, by omega, by go_num, q9 + nq, by rw [HWR.out, World.drewN_drewN]⟩
              case measure => simp [intOf] <;> omega
            · have ki : ¬ (k : Int) < (K : Int) := by omega
              go_wp2_with fail
              go_ret
              exact ⟨rfl, below_drewN Hb8.out q9⟩
        · have hfi : ¬ (N : Int) ≤ (S.length : Int) := by omega
          have hfi2 : decide ((N : Int) ≤ (S.length : Int)) = false := decide_eq_false hfi
          have hS' : S.take N1 = S := List.take_of_length_le (by have := HN1.out; omega)
          rw [hS'] at HCH
          obtain ⟨S', hS''⟩ : ∃ S', S' = S := ⟨_, rfl⟩
          subst hS''
          obtain ⟨K, hK⟩ : ∃ K, K = S'.length := ⟨_, rfl⟩
          have HSH := HS5
          have hK2 : K ≤ N1 := by rw [hK]; have := HN1.out; omega
          rw [← hK] at hfi hfi2 hc' ⊢
          have HK := Lib.hid hK
          clear hS' hK hfew
          go_wp2_with fail
          clear v0
          have hsmT2 := hsmT.1
          have hbl : ∀ j, j < S'.length → (S'.getD j zs).b.length ≤ 1000000 := fun j hj => by rw [← dB_dat, (HCH.out.2 j (by rw [length_dat]; exact hj)).2, ← ES.out]; omega
          obtain ⟨n, hn⟩ : ∃ n, n = lq * N1 := ⟨_, rfl⟩
          have hex := explain_any aq a' q S' lq cq K c' N N1 n EQ.out HK.out HN1.out hn n1 n8 hsmT2 hK2 hbl w5 (HB4.out.below Hb5.out (Nat.le_refl _)) HSH.out
          have hn1000 : n ≤ 1000 := by rw [hn]; have := Nat.mul_le_mul hsmT2 (show N1 ≤ 7 by have := HN1.out; omega); omega
          have HNN := Lib.hid hn
          refine hex.mono ?_
          clear hex hn
          rintro e w7 ⟨gr, rfl, hrr, b7⟩
          have HV7 := Lib.hid (HV5.out.below b7 HV5.out.lt)
          have Hb7 := Lib.hid (below_of Hb5.out b7 Hb5.out.size)
          have HSH7 := Lib.hid (HSH.out.below b7 (Nat.le_refl _))
          obtain ⟨rnd, hrnd⟩ : ∃ x, x = explL q (dat S') N := ⟨_, rfl⟩
          rw [← hrnd] at hrr
          have hrl : rnd.length = n := by rw [hrnd, length_explL, ← EQ.out, ← HN1.out, HNN.out]
          have HRR := Lib.hid hrr
          have HRND := Lib.hid hrnd
          have HRL := Lib.hid hrl
          clear b7 hrr hrnd hrl
          go_wp2_with (first | ((with_reducible show wpList _ _ _ (Oper.mk _ (Op.load _ _) _ _ _ _ :: _) _ _); refine wpList_load_row rfl 30 (.tmp 8) rfl g6 rfl 30 #[.int .i64 N, .int .i64 A] (0, 0) _ HV7.out Try.underlying30 rfl Try.n30 ?_))
          have hsp := split_any aq (some ⟨gr, 0, none⟩) q rnd cq n N A n1 nA (by omega) (by rw [← EQ.out]; omega) (by rw [HRL.out]; omega) w7 (HB4.out.below Hb7.out (Nat.le_refl _)) (Bs.of_row HRR.out)
          rw [← EQ.out, HRL.out] at hsp
          refine hsp.mono ?_
          clear hsp
          rintro e w8 ⟨gm, M2, rfl, hM2, hM2l, hSh2, hgm, hrow2, b8⟩
          have hv8 := HV7.out.below b8 HV7.out.lt
          have Hb8 := Lib.hid (below_of Hb7.out b8 Hb7.out.size)
          have v1 := hv8.cell 1
          simp only [List.getElem?_toArray, List.getElem?_cons_zero, List.getElem?_cons_succ] at v1
          have HSH8 := Lib.hid (HSH7.out.below b8 (Nat.le_refl _))
          -- what is read of share k, and of its explanation
          have hk1 : Hid (∀ k, k < K → ∃ ga oa ak ck i bk am cm, a' = some ⟨ga, oa, none⟩ ∧ i < A ∧ bk.length = lq ∧ Bs w8 ak bk ∧ Bs w8 am bk ∧ w8.cell? ⟨ga, oa + k * 2, none⟩ = some (.int .u8 ((i : Int) + 1)) ∧ w8.cell? ⟨ga, oa + k * 2 + 1, none⟩ = some (.slice ak lq ck) ∧ w8.cell? ⟨gm, i * 2 + 1, none⟩ = some (.slice am lq cm)) := Lib.hid fun k hk => by
            have hk' : k < S'.length := by rw [← HK.out]; exact hk
            obtain ⟨⟨i, hi, hx⟩, hlen⟩ := HCH.out.2 k (by rw [length_dat]; exact hk')
            have hlaw := law_secret (dat S') q N k n1 (by rw [length_dat, ← HK.out, ← HN1.out]; exact hK2) HCH.out.1 (fun j hj => by obtain ⟨⟨i', hi', hx'⟩, _⟩ := HCH.out.2 j hj; rw [hx']; exact ofNat_ne (by omega)) (by rw [length_dat]; exact hk') (by rw [hlen, ← ES.out, EQ.out])
            rw [← HRND.out, hx, ← split_dB q rnd N A i hi, ← hM2] at hlaw
            rcases HSH8.out.cells with h | ⟨ga, oa, ea, hc⟩
            · rw [h] at hk'; simp at hk'
            · obtain ⟨ak, ck, ev, _, hbs⟩ := HSH8.out.svs k hk'
              obtain ⟨p1, p2⟩ := hc k hk'
              obtain ⟨am, cm, _, q2, _, q3⟩ := Shs.at hSh2 i (by rw [hM2l]; exact hi) _ rfl _ rfl
              have e1 : (S'.getD k zs).b.length = lq := by rw [← dB_dat, hlen, ← ES.out]
              have e2 : (M2.getD i zs).b = (S'.getD k zs).b := by rw [← dB_dat, ← dB_dat, hlaw]
              rw [ev, e1] at p2
              rw [e2] at q2 q3
              rw [e1] at q2
              refine ⟨ga, oa, ak, ck, i, (S'.getD k zs).b, am, cm, ea, hi, e1, hbs, q3, ?_, p2, q2⟩
              rw [p1, ← dX_dat, hx, BitVec.toNat_ofNat, Nat.mod_eq_of_lt (by omega)]
              rfl
          clear hv8 hM2 hM2l hSh2 hgm hrow2 b8
          go_wp2_with fail
          clear v1
          go_loopw [16] (fun ik wr => ∃ k : Nat, k ≤ K ∧ ik = .int .i64 k ∧ ∃ q, wr = w8.drewN q) (fun ik _ => K - (intOf ik).toNat)
          case atStart => exact ⟨0, by omega, rfl, 0, rfl⟩
          case round =>
            obtain ⟨k, hk, rfl, q9, rfl⟩ := hrel
            by_cases hkK : k < K
            · have ki : (k : Int) < (K : Int) := by omega
              obtain ⟨ga, oa, ak, ck, i, bk, am, cm, ea, hi, hbl2, b1, b2, p1, p2, q2⟩ := hk1.out k hkK
              subst ea
              have ii : (i : Int) < (A : Int) := by omega
              have i16 : (i : Int) ≤ 16 := by omega
              have ix1 : ¬ (i : Int) + 1 < 1 := by omega
              have ix2 : ¬ (A : Int) < (i : Int) + 1 := by omega
              have ix3 : decide ((i : Int) + 1 < 1) = false := decide_eq_false ix1
              have ix4 : decide ((A : Int) < (i : Int) + 1) = false := decide_eq_false ix2
              obtain ⟨wr, hwr⟩ : ∃ W, W = w8.drewN q9 := ⟨_, rfl⟩
              have p1' : wr.cell? ⟨ga, oa + k * 2, none⟩ = some (.int .u8 ((i : Int) + 1)) := by rw [hwr]; exact p1
              have p2' : wr.cell? ⟨ga, oa + k * 2 + 1, none⟩ = some (.slice ak lq ck) := by rw [hwr]; exact p2
              have q2' : wr.cell? ⟨gm, i * 2 + 1, none⟩ = some (.slice am lq cm) := by rw [hwr]; exact q2
              have HSame : Hid (∀ n, Calls Try.prog 23 #[.slice am lq cm, .slice ak lq ck] (wr.drewN n) fun e w' => e = .returned (.bool true) ∧ ∃ m, w' = (wr.drewN n).drewN m) := Lib.hid fun n => by
                have := same_any am ak bk bk cm ck (wr.drewN n) (by omega) (by omega) (by rw [hwr]; exact (b2.below (below_drewN (below_drewN (Below.refl _ _) _) _) (Nat.le_refl _))) (by rw [hwr]; exact (b1.below (below_drewN (below_drewN (Below.refl _ _) _) _) (Nat.le_refl _)))
                rw [hbl2, decide_eq_true rfl] at this
                exact this
              have HWR := Lib.hid hwr
              rw [← hwr]
              clear p1 p2 q2 b1 b2 hbl2 hi hkK hwr
              go_wp2_with fail
              go_quiet (first | (go_at_call 23; exact Calls.quiet_of (HSame.out _)))
              go_wp2_with fail
              go_roundw
              case rel => exact ⟨k + 1, by omega, by go_num, q9 + nq, by rw [HWR.out, World.drewN_drewN]⟩
              case measure => simp [intOf] <;> omega
            · have ki : ¬ (k : Int) < (K : Int) := by omega
              go_wp2_with fail
              go_ret
              exact ⟨rfl, below_drewN Hb8.out q9⟩
      · have hlo1 : (100 : Int) < (lo : Int) := by omega
        have hlo2 : decide ((100 : Int) < (lo : Int)) = true := decide_eq_true hlo1
        go_wp2_with (first | ((with_reducible show wpList _ _ _ (Oper.mk _ (Op.alloc _) _ _ _ _ :: _) _ _); refine wpList_alloc_row rfl 30 rfl _ Try.z30 g6 EG6.out ?_) | ((with_reducible show wpList _ _ _ (Oper.mk _ (Op.store _ _ _) _ _ _ _ :: _) _ _); (refine wpList_put_arr rfl 30 (.tmp 8) (.tmp 22) rfl rfl g6 30 _ #[.int .i64 N, .int .i64 A] rfl rfl (Row.new' _ _ EG6.out) Try.n30 rfl (one_w _ _) ?_; rw [setRow_new _ _ _ _ _ EG6.out, ← HW3.out])))
        go_ret
        exact ⟨rfl, Hb3.out⟩
    · have hl1 : ¬ (lq : Int) = (ls : Int) := by omega
      have hl2 : ((lq : Int) == (ls : Int)) = false := by simp; omega
      go_wp2_with (first | ((with_reducible show wpList _ _ _ (Oper.mk _ (Op.alloc _) _ _ _ _ :: _) _ _); refine wpList_alloc_row rfl 30 rfl _ Try.z30 g6 EG6.out ?_) | ((with_reducible show wpList _ _ _ (Oper.mk _ (Op.store _ _ _) _ _ _ _ :: _) _ _); (refine wpList_put_arr rfl 30 (.tmp 8) (.tmp 22) rfl rfl g6 30 _ #[.int .i64 N, .int .i64 A] rfl rfl (Row.new' _ _ EG6.out) Try.n30 rfl (one_w _ _) ?_; rw [setRow_new _ _ _ _ _ EG6.out, ← HW3.out])))
      go_ret
      exact ⟨rfl, Hb3.out⟩
end Go.Proofs.Ytpghdiklleedaaa
