/- The walk of ShareMatchesReference. -/
import Derived.Test.YtpghdiklleedaaaUn
import Derived.Test.YtpghdiklleedaaaV
set_option linter.all false
namespace Go.Proofs.Ytpghdiklleedaaa
open Go.RowKit Go.Fen Gf
set_option maxHeartbeats 400000

theorem combineR_size (D : Dat) (p : Int) (b : Nat) (hb : ∀ k, k < D.length → (dB D k).length ≤ b) : (combineR D p).1.length ≤ b := by
  unfold combineR
  split
  · simp
  · cases hc : combR D p.toNat with
    | none => simp
    | some r =>
      dsimp only
      unfold combR at hc
      split at hc
      · rename_i hw
        unfold combV at hc
        split at hc
        · injection hc with hc
          subst hc
          rw [length_interpL]
          by_cases h0 : 0 < ((sortD D).take p.toNat).length
          · have hm : ((sortD D).take p.toNat).getD 0 (0#8, []) ∈ (sortD D).take p.toNat := by
              rw [List.getD, List.getElem?_eq_getElem h0]; exact List.getElem_mem _
            have hm2 := (sortD_perm D hw.1).mem_iff.1 (List.mem_of_mem_take hm)
            obtain ⟨k, hk, e⟩ := List.getElem_of_mem hm2
            have := hb k hk
            simp only [dB, List.getD, List.getElem?_eq_getElem hk, Option.getD_some] at this
            rw [e] at this
            exact this
          · have : (sortD D).take p.toNat = [] := List.eq_nil_of_length_eq_zero (by omega)
            rw [this]; simp [dB]
        · cases hc
      · cases hc

theorem bs_drewN {w : World} {a : Option Addr} {l : List (BitVec 8)} (h : Bs w a l) (q : Nat) : Bs (w.drewN q) a l := by
  rcases h with h | ⟨g, o, ha, hcc⟩
  · exact .inl h
  · exact .inr ⟨g, o, ha, hcc⟩

set_option maxRecDepth 20000 in
set_option maxHeartbeats 4000000 in
theorem matches_walk (asl ar a : Option Addr) (s r : List (BitVec 8)) (ls cs lr cr p0 q0 : Nat) (p q : Int) (L : List Shr) (n c : Nat) (els : ls = s.length) (elr : lr = r.length) (en : n = L.length) (w : World) (B1 : Bs w asl s) (B2 : Bs w ar r) (hs : Shs w a L) :
    Calls Try.prog 5 #[.agg #[.slice asl ls cs, .slice ar lr cr, .int .u8 p0, .int .u8 q0], .agg #[.int .i64 p, .int .i64 q], .slice a n c] w fun e w' => e = .returned (.bool true) ∧ Below w.heap.size w w' := by
  obtain ⟨g, eg⟩ : ∃ g, g = w.heap.size := ⟨_, rfl⟩
  obtain ⟨W0, hW0⟩ : ∃ W, W = w.alloc (.cells #[.slice asl ls cs, .slice ar lr cr, .int .u8 p0, .int .u8 q0] 29) := ⟨_, rfl⟩
  obtain ⟨W1, hW1⟩ : ∃ W, W = W0.alloc (.cells #[.int .i64 p, .int .i64 q] 30) := ⟨_, rfl⟩
  have hg1 : g + 1 = W0.heap.size := by rw [hW0, eg]; simp
  have hd : Row W1 g 29 (dealC asl ar ls cs lr cr p0 q0) := by rw [hW1, hW0, eg]; exact (deal_row w asl ar ls cs lr cr p0 q0).alloc _
  have hv : Row W1 (g + 1) 30 #[.int .i64 p, .int .i64 q] := by rw [hW1]; exact Row.new' _ _ hg1
  have hb : Below w.heap.size w W1 := by rw [hW1, hW0]; exact ((Below.refl _ _).alloc (Nat.le_refl _) _).alloc (by simp) _
  have EG := Lib.hid eg
  have HG1 := Lib.hid hg1
  have HW0 := Lib.hid hW0
  have HW1 := Lib.hid hW1
  have ES := Lib.hid els
  have ER := Lib.hid elr
  have N := Lib.hid en
  have HB1 := Lib.hid B1
  have HB2 := Lib.hid B2
  have HS := Lib.hid hs
  have HD := Lib.hid hd
  have HV := Lib.hid hv
  have Hb := Lib.hid hb
  clear eg hg1 hW0 hW1 els elr en B1 B2 hs hd hv hb
  go_enter Try.func5, Try.ntmps5
  go_wp2_with (first | ((with_reducible show wpList _ _ _ (Oper.mk _ (Op.box _ _) _ _ _ _ :: _) _ _); first | (refine wpList_box_row rfl 29 (.tmp 0) rfl _ rfl g EG.out ?_; refine wpList_atE HW0.out ?_) | (refine wpList_box_row rfl 30 (.tmp 1) rfl _ rfl (g + 1) HG1.out ?_; refine wpList_atE HW1.out ?_)))
  refine (sanity_any W1).mono ?_
  rintro e w1 ⟨rfl, b1⟩
  have HD1 := Lib.hid (HD.out.below b1 HD.out.lt)
  have HV1 := Lib.hid (HV.out.below b1 HV.out.lt)
  have Hb1 := Lib.hid (below_of Hb.out b1 Hb.out.size)
  clear b1
  have hd1 := HD1.out
  have c0 := hd1.cell 0
  have c1 := hd1.cell 1
  simp only [dealC, List.getElem?_toArray, List.getElem?_cons_zero, List.getElem?_cons_succ] at c0 c1
  clear hd1
  by_cases ht : ¬ (ls ≤ 24 ∧ lr ≤ 2000 ∧ n ≤ 300)
  · by_cases f1 : ls ≤ 24
    · have i1 : ¬ (24 : Int) < (ls : Int) := by omega
      have d1 : decide ((24 : Int) < (ls : Int)) = false := decide_eq_false i1
      by_cases f2 : lr ≤ 2000
      · have i2 : ¬ (2000 : Int) < (lr : Int) := by omega
        have d2 : decide ((2000 : Int) < (lr : Int)) = false := decide_eq_false i2
        have i3 : (300 : Int) < (n : Int) := by omega
        have d3 : decide ((300 : Int) < (n : Int)) = true := decide_eq_true i3
        clear ht f1 f2
        go_wp2_with fail
        go_ret
        exact ⟨rfl, Hb1.out⟩
      · have i2 : (2000 : Int) < (lr : Int) := by omega
        have d2 : decide ((2000 : Int) < (lr : Int)) = true := decide_eq_true i2
        clear ht f1 f2
        go_wp2_with fail
        go_ret
        exact ⟨rfl, Hb1.out⟩
    · have i1 : (24 : Int) < (ls : Int) := by omega
      have d1 : decide ((24 : Int) < (ls : Int)) = true := decide_eq_true i1
      clear ht f1
      go_wp2_with fail
      go_ret
      exact ⟨rfl, Hb1.out⟩
  obtain ⟨t1, t2, t3⟩ := Classical.not_not.1 ht
  clear ht
  have i1 : ¬ (24 : Int) < (ls : Int) := by omega
  have i2 : ¬ (2000 : Int) < (lr : Int) := by omega
  have i3 : ¬ (300 : Int) < (n : Int) := by omega
  have d1 : decide ((24 : Int) < (ls : Int)) = false := decide_eq_false i1
  have d2 : decide ((2000 : Int) < (lr : Int)) = false := decide_eq_false i2
  have d3 : decide ((300 : Int) < (n : Int)) = false := decide_eq_false i3
  go_wp2_with fail
  go_loopw [8] (fun iv wr => ∃ k : Nat, k ≤ n ∧ iv = .int .i64 k ∧ wr = w1 ∧ ∀ j, j < k → (L.getD j zs).b.length ≤ 24) (fun iv _ => n - (intOf iv).toNat)
  case atStart => exact ⟨0, by omega, rfl, rfl, fun j hj => by omega⟩
  case round =>
    obtain ⟨k, hk, rfl, rfl, hall⟩ := hrel
    by_cases hkn : k < n
    · have ki : (k : Int) < (n : Int) := by omega
      obtain ⟨g', o, ea, hc⟩ : ∃ g o, a = some ⟨g, o, none⟩ ∧ ∀ i, i < L.length → w.cell? ⟨g, o + i * 2, none⟩ = some (.int .u8 (L.getD i zs).x.toNat) ∧ w.cell? ⟨g, o + i * 2 + 1, none⟩ = some (L.getD i zs).v := by
        rcases HS.out.cells with h | h
        · have := N.out; rw [h] at this; simp at this; omega
        · exact h
      subst ea
      obtain ⟨av, cv, ev, _, _⟩ := HS.out.svs k (by rw [← N.out]; exact hkn)
      have q1 := (hc k (by rw [← N.out]; exact hkn)).2
      have q2 := (Hb1.out.cell (p := ⟨g', o + k * 2 + 1, none⟩) (block_lt_of_cell (a := ⟨g', o + k * 2 + 1, none⟩) q1)).trans q1
      rw [ev] at q2
      have HA := Lib.hid hall
      have HKN := Lib.hid hkn
      clear hc q1 ev hall hkn
      obtain ⟨lb, hlb⟩ : ∃ lb, lb = (L.getD k zs).b.length := ⟨_, rfl⟩
      rw [← hlb] at q2
      have HLB := Lib.hid hlb
      clear hlb
      by_cases h24 : lb ≤ 24
      · have l1 : ¬ (24 : Int) < (lb : Int) := by omega
        go_wp2_with fail
        go_roundw
        case rel => exact ⟨k + 1, HKN.out, by go_num, trivial, fun j hj => by
          by_cases e : j = k
          · subst e; rw [← HLB.out]; exact h24
          · exact HA.out j (by omega)⟩
        case measure => have := HKN.out; simp [intOf] <;> omega
      · have l1 : (24 : Int) < (lb : Int) := by omega
        go_wp2_with fail
        go_ret
        exact ⟨rfl, Hb1.out⟩
    · have ek : k = n := by omega
      have ki : ¬ (k : Int) < (n : Int) := by omega
      rw [ek] at hall
      have HA := Lib.hid hall
      clear hall
      have HBL : Hid (∀ i, i < L.length → (L.getD i zs).b.length ≤ 1000000) := Lib.hid fun i hi => by have := HA.out i (by rw [N.out]; exact hi); omega
      go_wp2_with (first | ((with_reducible show wpList _ _ _ (Oper.mk _ (Op.load _ _) _ _ _ _ :: _) _ _); refine wpList_load_row rfl 30 (.tmp 4) rfl (g + 1) rfl 30 #[.int .i64 p, .int .i64 q] (0, 0) _ HV1.out Try.underlying30 rfl Try.n30 ?_))
      refine (split_u asl ar s r ls cs lr cr p q ES.out ER.out (by omega) (by omega) wr (HB1.out.below Hb1.out (Nat.le_refl _)) (HB2.out.below Hb1.out (Nat.le_refl _))).mono ?_
      rintro e w2 ⟨a1, M1, m1, k1, rfl, rfl, hM1, hS1, b2⟩
      have HD2 := Lib.hid (HD1.out.below b2 HD1.out.lt)
      have HV2 := Lib.hid (HV1.out.below b2 HV1.out.lt)
      have Hb2 := Lib.hid (below_of Hb1.out b2 Hb1.out.size)
      have BB2 := Lib.hid b2
      clear b2 c0 c1
      have hd2 := HD2.out
      have hv2 := HV2.out
      have c0 := hd2.cell 0
      have c1 := hd2.cell 1
      have v0 := hv2.cell 0
      simp only [dealC, List.getElem?_toArray, List.getElem?_cons_zero, List.getElem?_cons_succ] at c0 c1 v0
      clear hd2 hv2
      clear v0
      go_wp2_with (first | ((with_reducible show wpList _ _ _ (Oper.mk _ (Op.load _ _) _ _ _ _ :: _) _ _); refine wpList_load_row rfl 30 (.tmp 4) rfl (g + 1) rfl 30 #[.int .i64 p, .int .i64 q] (0, 0) _ HV2.out Try.underlying30 rfl Try.n30 ?_))
      refine (rsplit_u asl ar s r ls cs lr cr p q ES.out ER.out (by omega) (by omega) w2 (HB1.out.below Hb2.out (Nat.le_refl _)) (HB2.out.below Hb2.out (Nat.le_refl _))).mono ?_
      rintro e w3 ⟨a2, M2, m2, k2, rfl, rfl, hM2, hS2, b3⟩
      have HD3 := Lib.hid (HD2.out.below b3 HD2.out.lt)
      have HV3 := Lib.hid (HV2.out.below b3 HV2.out.lt)
      have Hb3 := Lib.hid (below_of Hb2.out b3 Hb2.out.size)
      have BB3 := Lib.hid b3
      clear b3 c0 c1
      have hd3 := HD3.out
      have hv3 := HV3.out
      have c0 := hd3.cell 0
      have c1 := hd3.cell 1
      have v0 := hv3.cell 0
      simp only [dealC, List.getElem?_toArray, List.getElem?_cons_zero, List.getElem?_cons_succ] at c0 c1 v0
      clear hd3 hv3
      go_wp2_with fail
      refine (combine_u a L n c p N.out (by omega) HBL.out w3 (HS.out.below Hb3.out (Nat.le_refl _))).mono ?_
      rintro e w4 ⟨a3, m3, k3, rfl, rfl, hS3, b4⟩
      have HD4 := Lib.hid (HD3.out.below b4 HD3.out.lt)
      have HV4 := Lib.hid (HV3.out.below b4 HV3.out.lt)
      have Hb4 := Lib.hid (below_of Hb3.out b4 Hb3.out.size)
      have BB4 := Lib.hid b4
      clear b4 c0 c1 v0
      have hd4 := HD4.out
      have hv4 := HV4.out
      have c0 := hd4.cell 0
      have c1 := hd4.cell 1
      have v0 := hv4.cell 0
      simp only [dealC, List.getElem?_toArray, List.getElem?_cons_zero, List.getElem?_cons_succ] at c0 c1 v0
      clear hd4 hv4
      go_wp2_with fail
      refine (rcombine_u a L n c p N.out (by omega) HBL.out w4 (HS.out.below Hb4.out (Nat.le_refl _))).mono ?_
      rintro e w5 ⟨a4, m4, k4, rfl, rfl, hS4, b5⟩
      have HD5 := Lib.hid (HD4.out.below b5 HD4.out.lt)
      have HV5 := Lib.hid (HV4.out.below b5 HV4.out.lt)
      have Hb5 := Lib.hid (below_of Hb4.out b5 Hb4.out.size)
      have BB5 := Lib.hid b5
      clear b5 c0 c1 v0
      have hd5 := HD5.out
      have hv5 := HV5.out
      have c0 := hd5.cell 0
      have c1 := hd5.cell 1
      have v0 := hv5.cell 0
      simp only [dealC, List.getElem?_toArray, List.getElem?_cons_zero, List.getElem?_cons_succ] at c0 c1 v0
      clear hd5 hv5
      go_wp2_with fail
      refine (refresh_u a ar L r n c lr cr p N.out (by omega) HBL.out ER.out (by omega) w5 (HS.out.below Hb5.out (Nat.le_refl _)) (HB2.out.below Hb5.out (Nat.le_refl _))).mono ?_
      rintro e w6 ⟨a5, M5, m5, k5, rfl, rfl, hM5, hS5, b6⟩
      have HD6 := Lib.hid (HD5.out.below b6 HD5.out.lt)
      have HV6 := Lib.hid (HV5.out.below b6 HV5.out.lt)
      have Hb6 := Lib.hid (below_of Hb5.out b6 Hb5.out.size)
      have BB6 := Lib.hid b6
      clear b6 c0 c1 v0
      have hd6 := HD6.out
      have hv6 := HV6.out
      have c0 := hd6.cell 0
      have c1 := hd6.cell 1
      have v0 := hv6.cell 0
      simp only [dealC, List.getElem?_toArray, List.getElem?_cons_zero, List.getElem?_cons_succ] at c0 c1 v0
      clear hd6 hv6
      go_wp2_with fail
      refine (rrefresh_u a ar L r n c lr cr p N.out (by omega) HBL.out ER.out (by omega) w6 (HS.out.below Hb6.out (Nat.le_refl _)) (HB2.out.below Hb6.out (Nat.le_refl _))).mono ?_
      rintro e w7 ⟨a6, M6, m6, k6, rfl, rfl, hM6, hS6, b7⟩
      have HD7 := Lib.hid (HD6.out.below b7 HD6.out.lt)
      have HV7 := Lib.hid (HV6.out.below b7 HV6.out.lt)
      have Hb7 := Lib.hid (below_of Hb6.out b7 Hb6.out.size)
      have BB7 := Lib.hid b7
      clear b7 c0 c1 v0
      have hd7 := HD7.out
      have hv7 := HV7.out
      have c0 := hd7.cell 0
      have c1 := hd7.cell 1
      have v0 := hv7.cell 0
      simp only [dealC, List.getElem?_toArray, List.getElem?_cons_zero, List.getElem?_cons_succ] at c0 c1 v0
      clear hd7 hv7
      have bd : ∀ M, dat M = (splitR s r p q).1 → M.length ≤ 1000000 ∧ ∀ i, i < M.length → (M.getD i zs).b.length ≤ 1000000 := fun M h => by
        have hz := splitR_size s r p q
        rw [← h] at hz
        simp only [length_dat, dB_dat] at hz
        exact ⟨by omega, fun i hi => by have := hz.2 i hi; have := ES.out; omega⟩
      have be : ∀ M, dat M = (refreshR (dat L) r p).1 → M.length ≤ 1000000 ∧ ∀ i, i < M.length → (M.getD i zs).b.length ≤ 1000000 := fun M h => by
        have hz := refreshR_size (dat L) r p
        rw [← h] at hz
        simp only [length_dat, dB_dat] at hz
        have := N.out
        exact ⟨by omega, fun i hi => by have := hz.2 i hi; have := HBL.out i (by omega); omega⟩
      have bc : (combineR (dat L) p).1.length ≤ 1000000 := combineR_size _ _ _ fun k hk => by rw [dB_dat]; rw [length_dat] at hk; exact HBL.out k hk
      have s1 := sameShares_true a1 a2 M1 M2 _ _ k1 k2 rfl rfl (bd M1 hM1).1 (bd M2 hM2).1 (bd M1 hM1).2 (bd M2 hM2).2 w7 ((((((hS1.below BB3.out (Nat.le_refl _)).below BB4.out (Nat.le_refl _)).below BB5.out (Nat.le_refl _)).below BB6.out (Nat.le_refl _)).below BB7.out (Nat.le_refl _))) (((((hS2.below BB4.out (Nat.le_refl _)).below BB5.out (Nat.le_refl _)).below BB6.out (Nat.le_refl _)).below BB7.out (Nat.le_refl _))) (hM1.trans hM2.symm)
      have s3 := fun q1 => sameShares_true a5 a6 M5 M6 _ _ k5 k6 rfl rfl (be M5 hM5).1 (be M6 hM6).1 (be M5 hM5).2 (be M6 hM6).2 (w7.drewN q1) ((hS5.below BB7.out (Nat.le_refl _)).drewN q1) (hS6.drewN q1) (hM5.trans hM6.symm)
      have s2 := fun q' => same_any a3 a4 (combineR (dat L) p).1 (combineR (dat L) p).1 k3 k4 (w7.drewN q') bc bc (bs_drewN (((hS3.below BB5.out (Nat.le_refl _)).below BB6.out (Nat.le_refl _)).below BB7.out (Nat.le_refl _)) q') (bs_drewN ((hS4.below BB6.out (Nat.le_refl _)).below BB7.out (Nat.le_refl _)) q')
      simp only [decide_true] at s2
      have S1 := Lib.hid s1
      have S2 := Lib.hid s2
      have S3 := Lib.hid s3
      generalize (splitR s r p q).2 = er1
      generalize (combineR (dat L) p).2 = er2
      generalize (refreshR (dat L) r p).2 = er3
      clear s1 s2 s3 c0 c1 v0 bd be bc hS1 hS2 hS3 hS4 hS5 hS6 hM1 hM2 hM5 hM6
      go_wp2_with fail
      refine (S1.out).mono ?_
      rintro e w8 ⟨rfl, qa, rfl⟩
      go_wp2_with fail
      refine (S2.out qa).mono ?_
      rintro e w9 ⟨rfl, qb, rfl⟩
      go_wp2_with fail
      refine (S3.out (qa + qb)).mono ?_
      rintro e w10 ⟨rfl, qc, rfl⟩
      go_wp2_with fail
      go_ret
      exact ⟨rfl, below_drewN Hb7.out _⟩
end Go.Proofs.Ytpghdiklleedaaa
