/- The walk of ShareReconstruct. -/
import Derived.Test.YtpghdiklleedaaaR
set_option linter.all false
namespace Go.Proofs.Ytpghdiklleedaaa
open Go.RowKit Go.Fen Gf
set_option maxHeartbeats 400000

theorem Try.n29 : (Try.prog.info? 29).map (·.size) = some 4 := by kernel_rfl
theorem Try.z30 : (Try.prog.info? 30).bind (·.zero) = some (.agg #[.int .i64 0, .int .i64 0]) := by kernel_rfl
theorem one_w (N A : Int) : (#[Value.int .i64 N, .int .i64 A] : Array Value).all (·.oneCell') = true := by simp [Value.oneCell']
theorem needN_pos (p : Nat) : 1 ≤ needN p := by unfold needN; omega
theorem needN_le (p : Nat) : needN p ≤ 8 := by unfold needN; omega
theorem allN_ge (p q : Nat) : needN p ≤ allN p q := by unfold allN; omega
theorem allN_le (p q : Nat) : allN p q ≤ 16 := by unfold allN; have := needN_le p; omega
theorem below_of {w w1 w2 : World} {B : Nat} (h1 : Below B w w1) (h2 : Below w1.heap.size w1 w2) (hB : B ≤ w1.heap.size) : Below B w w2 := h1.trans (h2.mono hB)
/-- the cells of a deal -/
def dealC (asl ar : Option Addr) (ls cs lr cr p q : Nat) : Array Value := #[.slice asl ls cs, .slice ar lr cr, .int .u8 p, .int .u8 q]
theorem deal_row (w : World) (asl ar : Option Addr) (ls cs lr cr p q : Nat) : Row (w.alloc (.cells #[.slice asl ls cs, .slice ar lr cr, .int .u8 p, .int .u8 q] 29)) w.heap.size 29 (dealC asl ar ls cs lr cr p q) := Row.new _ _ _

theorem choose_split_few (s r : List (BitVec 8)) (N A : Nat) (h1 : 1 ≤ N) (h2 : N ≤ A) (o : List (BitVec 8)) : (chooseL (splitL s r N A) o).length ≤ A := by
  rw [splitL_byIdx, choose_byIdx _ _ (by omega), length_byIdx]
  have h := chooseI_ok A (by omega) o [] (by simp) (by simp)
  have := List.Nodup.length_le_of_subset h.1 (l₂ := List.range A) (fun i hi => List.mem_range.2 (h.2 i hi))
  simpa using this
theorem choose_split_len (s r : List (BitVec 8)) (N A : Nat) (h1 : 1 ≤ N) (h2 : N ≤ A) (o : List (BitVec 8)) (k : Nat) (hk : k < (chooseL (splitL s r N A) o).length) : (dB (chooseL (splitL s r N A) o) k).length = s.length := by
  rw [splitL_byIdx, choose_byIdx _ _ (by omega), length_byIdx] at hk
  rw [splitL_byIdx, choose_byIdx _ _ (by omega), dB_byIdx _ _ _ hk, length_maskL]

set_option maxHeartbeats 2000000 in
theorem reconstruct_walk (asl ar ao : Option Addr) (s r o : List (BitVec 8)) (ls cs lr cr lo co p q : Nat) (els : ls = s.length) (elr : lr = r.length) (elo : lo = o.length) (hp : p < 256) (hq : q < 256) (w : World) (B1 : Bs w asl s) (B2 : Bs w ar r) (B3 : Bs w ao o) :
    Calls Try.prog 6 #[.agg #[.slice asl ls cs, .slice ar lr cr, .int .u8 p, .int .u8 q], .slice ao lo co] w fun e w' => e = .returned (.bool true) ∧ Below w.heap.size w w' := by
  obtain ⟨g, eg⟩ : ∃ g, g = w.heap.size := ⟨_, rfl⟩
  have hd := deal_row w asl ar ls cs lr cr p q
  rw [← eg] at hd
  have hb : Below w.heap.size w (w.alloc (.cells #[.slice asl ls cs, .slice ar lr cr, .int .u8 p, .int .u8 q] 29)) := (Below.refl _ _).alloc (Nat.le_refl _) _
  have HN := Lib.hid (And.intro (needN_pos p) (And.intro (needN_le p) (And.intro (allN_ge p q) (allN_le p q))))
  have HF := Lib.hid (fun W => fits_any asl ar ls lr cs cr p q hp hq W)
  generalize needN p = N at *
  generalize allN p q = A at *
  have EG := Lib.hid eg
  have ES := Lib.hid els
  have ER := Lib.hid elr
  have EO := Lib.hid elo
  have HB1 := Lib.hid B1
  have HB2 := Lib.hid B2
  have HB3 := Lib.hid B3
  clear eg els elr elo B1 B2 B3
  go_enter Try.func6, Try.ntmps6
  go_wp2_with fail
  rw [← EG.out]
  obtain ⟨W0, hW0⟩ : ∃ W, W = w.alloc (.cells #[.slice asl ls cs, .slice ar lr cr, .int .u8 p, .int .u8 q] 29) := ⟨_, rfl⟩
  rw [← hW0] at hd hb ⊢
  clear hW0
  refine (sanity_any W0).mono ?_
  rintro e w1 ⟨rfl, b1⟩
  have hd1 := hd.below b1 hd.lt
  have hb1 := below_of hb b1 hb.size
  clear hd hb b1
  have HD1 := Lib.hid hd1
  have Hb1 := Lib.hid hb1
  clear hd1 hb1
  go_wp2_with (first | ((with_reducible show wpList _ _ _ (Oper.mk _ (Op.load _ _) _ _ _ _ :: _) _ _); refine wpList_load_row rfl 29 (.tmp 2) rfl g rfl 29 (dealC asl ar ls cs lr cr p q) (0, 0) _ HD1.out Try.underlying29 rfl Try.n29 ?_))
  refine (HF.out w1).mono ?_
  rintro e w2 ⟨rfl, b2⟩
  have hd2 := HD1.out.below b2 HD1.out.lt
  have hb2 := below_of Hb1.out b2 Hb1.out.size
  clear b2 HD1 Hb1
  obtain ⟨g6, eg6⟩ : ∃ g, g = w2.heap.size := ⟨_, rfl⟩
  obtain ⟨W3, hW3⟩ : ∃ W, W = w2.alloc (.cells #[.int .i64 N, .int .i64 A] 30) := ⟨_, rfl⟩
  have hv3 : Row W3 g6 30 #[.int .i64 N, .int .i64 A] := by rw [hW3]; exact Row.new' _ _ eg6
  have hd3 : Row W3 g 29 (dealC asl ar ls cs lr cr p q) := by rw [hW3]; exact hd2.alloc _
  have hb3 : Below w.heap.size w W3 := by rw [hW3]; exact hb2.alloc hb2.size _
  have EG6 := Lib.hid eg6
  have HW3 := Lib.hid hW3
  have HD3 := Lib.hid hd3
  have Hb3 := Lib.hid hb3
  have HV3 := Lib.hid hv3
  have c0 := hd3.cell 0
  have c1 := hd3.cell 1
  have v0 := hv3.cell 0
  have v1 := hv3.cell 1
  simp only [dealC, List.getElem?_toArray, List.getElem?_cons_zero, List.getElem?_cons_succ] at c0 c1 v0 v1
  clear hd2 hb2 eg6 hW3 hd3 hb3 hv3
  by_cases hsm : ls ≤ 40 ∧ lr ≤ 400
  · rw [decide_eq_true hsm]
    by_cases hlo : lo ≤ 100
    · have hlo1 : ¬ (100 : Int) < (lo : Int) := by omega
      have hlo2 : decide ((100 : Int) < (lo : Int)) = false := decide_eq_false hlo1
      go_wp2_with (first | ((with_reducible show wpList _ _ _ (Oper.mk _ (Op.alloc _) _ _ _ _ :: _) _ _); refine wpList_alloc_row rfl 30 rfl _ Try.z30 g6 EG6.out ?_) | ((with_reducible show wpList _ _ _ (Oper.mk _ (Op.store _ _ _) _ _ _ _ :: _) _ _); (refine wpList_put_arr rfl 30 (.tmp 6) (.tmp 17) rfl rfl g6 30 _ #[.int .i64 N, .int .i64 A] rfl rfl (Row.new' _ _ EG6.out) Try.n30 rfl (one_w _ _) ?_; rw [setRow_new _ _ _ _ _ EG6.out, ← HW3.out])) | ((with_reducible show wpList _ _ _ (Oper.mk _ (Op.load _ _) _ _ _ _ :: _) _ _); refine wpList_load_row rfl 30 (.tmp 6) rfl g6 rfl 30 #[.int .i64 N, .int .i64 A] (0, 0) _ HV3.out Try.underlying30 rfl Try.n30 ?_))
      clear c0 c1 v0 v1
      obtain ⟨n1, n8, nA, n16⟩ := HN.out
      have hsp := split_any asl ar s r cs cr N A n1 nA (by omega) (by rw [← ES.out]; omega) (by rw [← ER.out]; omega) W3 (HB1.out.below Hb3.out (Nat.le_refl _)) (HB2.out.below Hb3.out (Nat.le_refl _))
      rw [← ES.out, ← ER.out] at hsp
      refine hsp.mono ?_
      clear hsp
      rintro e w4 ⟨gl, M, rfl, hM, hMl, hSh, hgl, hrow, b4⟩
      have hd4 := HD3.out.below b4 HD3.out.lt
      have hv4 := HV3.out.below b4 HV3.out.lt
      have hb4 := below_of Hb3.out b4 Hb3.out.size
      have v1 := hv4.cell 1
      simp only [List.getElem?_toArray, List.getElem?_cons_zero, List.getElem?_cons_succ] at v1
      have HD4 := Lib.hid hd4
      have HV4 := Lib.hid hv4
      have Hb4 := Lib.hid hb4
      have HM := Lib.hid hM
      have HMl := Lib.hid hMl
      have HSh := Lib.hid hSh
      clear hd4 hv4 hb4 hM hMl hSh hgl hrow b4
      go_wp2_with fail
      clear v1
      have hch := choose_any (some ⟨gl, 0, none⟩) ao M o A co (by rw [HMl.out]; omega) (by rw [← EO.out]; omega) w4 HSh.out (HB3.out.below Hb4.out (Nat.le_refl _))
      rw [HMl.out, ← EO.out] at hch
      refine hch.mono ?_
      clear hch
      rintro e w5 ⟨a', c', rfl, hc', hsh5, b5⟩
      have hd5 := HD4.out.below b5 HD4.out.lt
      have hv5 := HV4.out.below b5 HV4.out.lt
      have hb5 := below_of Hb4.out b5 Hb4.out.size
      have v0 := hv5.cell 0
      simp only [List.getElem?_toArray, List.getElem?_cons_zero, List.getElem?_cons_succ] at v0
      have hS : dat (chooseS M o) = chooseL (splitL s r N A) o := by rw [dat_chooseS, HM.out]
      have hbl : ∀ t ∈ chooseS M o, t.b.length ≤ 1000000 := by
        intro t ht
        obtain ⟨k, hk, e⟩ : ∃ k, k < (chooseS M o).length ∧ t = (chooseS M o).getD k zs := by
          obtain ⟨k, hk, e⟩ := List.getElem_of_mem ht
          exact ⟨k, hk, by simp [List.getD, hk, e]⟩
        have hx := choose_split_len s r N A n1 nA o k (by rw [← hS, length_dat]; exact hk)
        rw [← hS, dB_dat, ← e] at hx
        rw [hx, ← ES.out]; omega
      have hSl : (chooseS M o).length ≤ 16 := by
        rw [← length_dat, hS]
        have := choose_split_few s r N A n1 nA o
        omega
      generalize chooseS M o = S at *
      have HS := Lib.hid hS
      have HBL := Lib.hid hbl
      have HD5 := Lib.hid hd5
      have HV5 := Lib.hid hv5
      have Hb5 := Lib.hid hb5
      have Hsh5 := Lib.hid hsh5
      clear hd5 hv5 hb5 hS hbl hsh5 b5
      go_wp2_with fail
      by_cases hfew : S.length < N
      · have hfi : (S.length : Int) < (N : Int) := by omega
        have hcb := comb_none a' S S.length c' N rfl n1 (by omega) (by omega) HBL.out w5 Hsh5.out (comb_few _ _ (by rw [length_dat]; exact hfew))
        refine hcb.mono ?_
        clear hcb
        rintro e w6 ⟨rfl, b6⟩
        have hv6 := HV5.out.below b6 HV5.out.lt
        have hb6 := below_of Hb5.out b6 Hb5.out.size
        have v0 := hv6.cell 0
        simp only [List.getElem?_toArray, List.getElem?_cons_zero, List.getElem?_cons_succ] at v0
        have Hb6 := Lib.hid hb6
        clear hv6 hb6 b6 hfew
        go_wp2_with fail
        go_ret
        exact ⟨rfl, Hb6.out⟩
      · have hfi : ¬ (S.length : Int) < (N : Int) := by omega
        have hlaw := law_reconstruct s r N A n1 nA (by omega) o (by rw [← HS.out, length_dat]; omega)
        rw [← HS.out] at hlaw
        have hcb := comb_some a' S S.length c' N s rfl n1 (by omega) (by omega) HBL.out w5 Hsh5.out hlaw
        rw [← ES.out] at hcb
        refine hcb.mono ?_
        clear hcb hlaw
        rintro e w6 ⟨⟨g', rfl, hr6⟩, b6⟩
        have hd6 := HD5.out.below b6 HD5.out.lt
        have hv6 := HV5.out.below b6 HV5.out.lt
        have hb6 := below_of Hb5.out b6 Hb5.out.size
        have v0 := hv6.cell 0
        have c0 := hd6.cell 0
        simp only [dealC, List.getElem?_toArray, List.getElem?_cons_zero, List.getElem?_cons_succ] at v0 c0
        have Hb6 := Lib.hid hb6
        have HR6 := Lib.hid hr6
        clear hv6 hd6 hb6 b6 hfew hr6
        go_wp2_with fail
        have hsame := same_any (some ⟨g', 0, none⟩) asl s s ls cs w6 (by rw [← ES.out]; omega) (by rw [← ES.out]; omega) (Bs.of_row HR6.out) (HB1.out.below Hb6.out (Nat.le_refl _))
        rw [← ES.out, decide_eq_true rfl] at hsame
        refine hsame.mono ?_
        clear hsame
        rintro e w7 ⟨rfl, nq, rfl⟩
        go_wp2_with fail
        go_ret
        exact ⟨rfl, below_drewN Hb6.out nq⟩
    · have hlo1 : (100 : Int) < (lo : Int) := by omega
      have hlo2 : decide ((100 : Int) < (lo : Int)) = true := decide_eq_true hlo1
      go_wp2_with (first | ((with_reducible show wpList _ _ _ (Oper.mk _ (Op.alloc _) _ _ _ _ :: _) _ _); refine wpList_alloc_row rfl 30 rfl _ Try.z30 g6 EG6.out ?_) | ((with_reducible show wpList _ _ _ (Oper.mk _ (Op.store _ _ _) _ _ _ _ :: _) _ _); (refine wpList_put_arr rfl 30 (.tmp 6) (.tmp 17) rfl rfl g6 30 _ #[.int .i64 N, .int .i64 A] rfl rfl (Row.new' _ _ EG6.out) Try.n30 rfl (one_w _ _) ?_; rw [setRow_new _ _ _ _ _ EG6.out, ← HW3.out])))
      go_ret
      exact ⟨rfl, Hb3.out⟩
  · rw [decide_eq_false hsm]
    go_wp2_with (first | ((with_reducible show wpList _ _ _ (Oper.mk _ (Op.alloc _) _ _ _ _ :: _) _ _); refine wpList_alloc_row rfl 30 rfl _ Try.z30 g6 EG6.out ?_) | ((with_reducible show wpList _ _ _ (Oper.mk _ (Op.store _ _ _) _ _ _ _ :: _) _ _); (refine wpList_put_arr rfl 30 (.tmp 6) (.tmp 17) rfl rfl g6 30 _ #[.int .i64 N, .int .i64 A] rfl rfl (Row.new' _ _ EG6.out) Try.n30 rfl (one_w _ _) ?_; rw [setRow_new _ _ _ _ _ EG6.out, ← HW3.out])))
    go_ret
    exact ⟨rfl, Hb3.out⟩
end Go.Proofs.Ytpghdiklleedaaa
