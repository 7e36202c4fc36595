/- The contract of the reference's Refresh. -/
import Derived.Test.YtpghdiklleedaaaRs
import Derived.Test.YtpghdiklleedaaaWe
set_option linter.all false
namespace Go.Proofs.Ytpghdiklleedaaa
open Go.RowKit Go.Fen Gf
set_option maxHeartbeats 400000

theorem rrefresh_bad (a ar : Option Addr) (l c lr cr : Nat) (p : Int) (h : p < 1 ∨ 255 < p) (w : World) :
    Calls Try.prog 21 #[.slice a l c, .slice ar lr cr, .int .i64 p] w fun e w' => e = .returned (.tuple #[.slice none 0 0, .int .i64 1]) ∧ w = w' := by
  by_cases h1 : p < 1
  · have h1' : decide (p < 1) = true := decide_eq_true h1
    clear h
    go_enter Try.func21, Try.ntmps21
    go_wp2
    go_ret2
    exact ⟨rfl, rfl⟩
  · have h1' : decide (p < 1) = false := decide_eq_false h1
    have h3 : 255 < p := by omega
    have h3' : decide (255 < p) = true := decide_eq_true h3
    clear h
    go_enter Try.func21, Try.ntmps21
    go_wp2
    go_ret2
    exact ⟨rfl, rfl⟩

theorem ev_noise (r : List (BitVec 8)) (need i : Nat) (x : BitVec 8) : ev (0#8 :: coefs r (i * (need - 1)) (need - 1)) x = noiseV r need i x := by
  rw [← noise_ev]; simp
theorem maskL_takeX (b r : List (BitVec 8)) (need : Nat) (x : BitVec 8) (t : Nat) (ht : t < b.length) : (maskL b r need x).take (t + 1) = (maskL b r need x).take t ++ [b.getD t 0#8 ^^^ ev (0#8 :: coefs r (t * (need - 1)) (need - 1)) x] := by
  rw [List.take_succ_eq_append_getElem (by rw [length_maskL]; exact ht), ev_noise]
  congr 2
  simp [maskL]
theorem refreshL_take (D : Dat) (r : List (BitVec 8)) (need k : Nat) (hk : k < D.length) : (refreshL D r need).take (k + 1) = (refreshL D r need).take k ++ [(dX D k, maskL (dB D k) r need (dX D k))] := by
  rw [List.take_succ_eq_append_getElem (by simp [refreshL]; exact hk)]
  congr 2
  simp [refreshL, dX, dB, List.getD, hk]

def rrPost (L : List Shr) (r : List (BitVec 8)) (need n : Nat) (w : World) (e : Ending) (w' : World) : Prop :=
  (well (dat L) = false ∧ e = .returned (.tuple #[.slice none 0 0, .int .i64 40]) ∨ well (dat L) = true ∧ ∃ a c M, e = .returned (.tuple #[.slice a n c, .int .i64 0]) ∧ n ≤ c ∧ dat M = refreshL (dat L) r need ∧ M.length = n ∧ Shs w' a M) ∧ Below w.heap.size w w'

set_option maxRecDepth 20000 in
set_option maxHeartbeats 8000000 in
theorem rrefresh_any (a ar : Option Addr) (L : List Shr) (r : List (BitVec 8)) (n c lr cr need : Nat) (en : n = L.length) (h1 : 1 ≤ need) (h2 : need ≤ 255) (hL : n ≤ 1000000) (hbl : ∀ i, i < L.length → (L.getD i zs).b.length ≤ 1000000) (elr : lr = r.length) (hr : lr ≤ 1000000000) (w : World) (hs : Shs w a L) (B0 : Bs w ar r) :
    Calls Try.prog 21 #[.slice a n c, .slice ar lr cr, .int .i64 need] w fun e w' => rrPost L r need n w e w' := by
  obtain ⟨B, hB⟩ : ∃ B, B = w.heap.size := ⟨_, rfl⟩
  have hwell := well_any a L n c en hL w hs
  have h1i : ¬ ((need : Int) < 1) := by omega
  have h2i : ¬ ((255 : Int) < (need : Int)) := by omega
  have h1' : decide ((need : Int) < 1) = false := decide_eq_false h1i
  have h2' : decide ((255 : Int) < (need : Int)) = false := decide_eq_false h2i
  have N := Lib.hid en
  have HS := Lib.hid hs
  have HBB := Lib.hid hB
  have HBN := Lib.hid hbl
  have HW := Lib.hid hwell
  have HB0 := Lib.hid B0
  have EL := Lib.hid elr
  clear en hs hB hbl hwell B0 elr
  cases hw : well (dat L) with
  | false =>
    have HW' := HW.out
    rw [hw] at HW'
    have HW2 := Lib.hid HW'
    have Hw := Lib.hid hw
    clear HW HW' hw
    go_enter Try.func21, Try.ntmps21
    go_wp2_with fail
    refine (HW2.out).mono ?_
    rintro e w1 ⟨rfl, hb1⟩
    go_wp2_with fail
    go_ret2
    exact ⟨.inl ⟨Hw.out, rfl⟩, hb1⟩
  | true =>
    have HW' := HW.out
    rw [hw] at HW'
    have HW2 := Lib.hid HW'
    have Hw := Lib.hid hw
    clear HW HW' hw
    go_enter Try.func21, Try.ntmps21
    go_wp2_with fail
    refine (HW2.out).mono ?_
    rintro e w1 ⟨rfl, hb1⟩
    rw [← HBB.out] at hb1
    obtain ⟨g1, hg1⟩ : ∃ g, g = w1.heap.size := ⟨_, rfl⟩
    obtain ⟨W2, hW2⟩ : ∃ W, W = w1.alloc (.cells #[] 33) := ⟨_, rfl⟩
    have hF0 : BufF g1 (.slice (some ⟨g1, 0, none⟩) 0 0) [] w1 W2 := by rw [hW2, hg1]; exact BufF.nil (BufS.lit0 rfl (Below.refl _ _))
    have hBg : B ≤ g1 := by rw [hg1, HBB.out]; exact (by have := hb1.size; rw [HBB.out] at hb1; exact hb1.size)
    have HB1 := Lib.hid hb1
    have HG1 := Lib.hid hg1
    have HW3 := Lib.hid hW2
    have HBG := Lib.hid hBg
    clear hb1 hg1 hW2
    go_wp2_with fail
    rw [← HG1.out, ← HW3.out]
    clear h1i h2i h1' h2'
    go_loopw [8, 9] (fun v ix wr => ∃ k : Nat, k ≤ n ∧ ix = .int .i64 k ∧ ∃ M, dat M = (refreshL (dat L) r need).take k ∧ BufF g1 v M w1 wr) (fun _ ix _ => n - (intOf ix).toNat)
    case atStart => exact ⟨0, by omega, rfl, [], rfl, hF0⟩
    case round =>
      clear hF0
      obtain ⟨k, hk, rfl, M, hM, hF⟩ := hrel
      have hMl : M.length = k := by rw [← length_dat, hM, List.length_take]; simp only [refreshL, List.length_map]; rw [length_dat, ← N.out]; omega
      by_cases hkn : k < n
      · have ki : (k : Int) < (n : Int) := by omega
        obtain ⟨g, o, ea, hc⟩ : ∃ g o, a = some ⟨g, o, none⟩ ∧ ∀ i, i < L.length → w.cell? ⟨g, o + i * 2, none⟩ = some (.int .u8 (L.getD i zs).x.toNat) ∧ w.cell? ⟨g, o + i * 2 + 1, none⟩ = some (L.getD i zs).v := by
          rcases HS.out.cells with h | h
          · have := N.out; rw [h] at this; simp at this; omega
          · exact h
        subst ea
        have hcc := hc k (by rw [← N.out]; exact hkn)
        obtain ⟨av, cv, ev', hcv, hbs⟩ := HS.out.svs k (by rw [← N.out]; exact hkn)
        have hlb := HBN.out k (by rw [← N.out]; exact hkn)
        have hgB : g < B := by rw [HBB.out]; exact block_lt_of_cell (a := ⟨g, o + k * 2, none⟩) hcc.1
        rw [ev'] at hcc
        have hst : Hid (dat M ++ [((L.getD k zs).x, maskL (L.getD k zs).b r need (L.getD k zs).x)] = (refreshL (dat L) r need).take (k + 1)) := Lib.hid (by rw [refreshL_take _ _ _ _ (by rw [length_dat, ← N.out]; exact hkn), hM, dX_dat, dB_dat])
        generalize (L.getD k zs).x = x8 at *
        generalize (L.getD k zs).b = b at *
        obtain ⟨ls, hls⟩ : ∃ ls, ls = b.length := ⟨_, rfl⟩
        rw [← hls] at hcc hlb
        obtain ⟨B2, hB2⟩ : ∃ g, g = wr.heap.size := ⟨_, rfl⟩
        obtain ⟨W3, hW3⟩ : ∃ W, W = wr.alloc (.cells #[] 5) := ⟨_, rfl⟩
        have hb0 : BufB B2 (.slice (some ⟨B2, 0, none⟩) 0 0) ((maskL b r need x8).take 0) wr W3 := by rw [hW3]; exact BufB.nil0 hB2
        have HF := Lib.hid hF
        have HC := Lib.hid hcc
        have HBS := Lib.hid hbs
        have HLS := Lib.hid hls
        have HB2 := Lib.hid hB2
        have HW4 := Lib.hid hW3
        have HML := Lib.hid hMl
        have HKN := Lib.hid hkn
        have HGB := Lib.hid hgB
        have hB2g : Hid (g1 ≤ B2) := Lib.hid (by rw [hB2]; exact hF.buf.2.2)
        clear hF hM hB2 hW3 hMl hkn hc hcc hbs hls ev' hcv
        obtain ⟨wo, ewo⟩ : ∃ wo, wo = wr := ⟨_, rfl⟩
        rw [← ewo] at HF HB2 HW4 hb0 ⊢
        clear ewo
        clear wr
        go_wp2_with fail
        rw [← HB2.out, ← HW4.out]
        go_loopw [10, 11] (fun v ij wr => ∃ t : Nat, t ≤ ls ∧ ij = .int .i64 t ∧ BufB B2 v ((maskL b r need x8).take t) wo wr) (fun _ ij _ => ls - (intOf ij).toNat)
        case atStart => exact ⟨0, by omega, rfl, hb0⟩
        case round =>
          clear hb0
          obtain ⟨t, ht, rfl, hb⟩ := hrel
          have hbw : Below B2 wo wr := hb.2.1
          have hall : Below B w wr := HB1.out.trans ((HF.out.buf.2.1.mono HBG.out).trans (hbw.mono (Nat.le_trans HBG.out hB2g.out)))
          have q1 := (hall.cell (p := ⟨g, o + k * 2, none⟩) HGB.out).trans HC.out.1
          have q2 := (hall.cell (p := ⟨g, o + k * 2 + 1, none⟩) HGB.out).trans HC.out.2
          by_cases htl : t < ls
          · have ti : (t : Int) < (ls : Int) := by omega
            obtain ⟨gb, ob, ea, kc⟩ : ∃ gb ob, av = some ⟨gb, ob, none⟩ ∧ w.cell? ⟨gb, ob + t, none⟩ = some (.int .u8 (b.getD t 0#8).toNat) := by
              rcases HBS.out with h | ⟨g, o, e, hc⟩
              · have := HLS.out; rw [h] at this; simp at this; omega
              · exact ⟨g, o, e, hc t (by rw [← HLS.out]; exact htl)⟩
            subst ea
            have kc' := (hall.cell (p := ⟨gb, ob + t, none⟩) (by show gb < B; rw [HBB.out]; exact block_lt_of_cell (a := ⟨gb, ob + t, none⟩) kc)).trans kc
            have hsn := Lib.hid (maskL_takeX b r need x8 t (by rw [← HLS.out]; exact htl))
            obtain ⟨pl, hpl⟩ : ∃ pl, pl = 0#8 :: coefs r (t * (need - 1)) (need - 1) := ⟨_, rfl⟩
            have hpl2 : Hid (pl.length = need) := Lib.hid (by rw [hpl]; simp only [List.length_cons, length_coefs]; omega)
            have HP : Hid (∀ W, Below B w W → Calls Try.prog 32 #[.int .u8 0, .slice ar lr cr, .agg #[.int .i64 need, .int .i64 t]] W fun e w' => ∃ v, e = .returned v ∧ BufB W.heap.size v pl W w') := Lib.hid fun W hW => by
              have := poly_any ar 0#8 r lr cr need t h1 h2 (by omega) EL.out hr W (HB0.out.below hW (Nat.le_of_eq HBB.out.symm))
              rw [← hpl] at this
              exact this
            rw [← hpl] at hsn
            have hml : ((maskL b r need x8).take t).length ≤ 1000000 := by rw [List.length_take]; omega
            have HAt : Hid (∀ pa pc W, Bs W pa pl → Calls Try.prog 31 #[.slice pa need pc, .int .u8 x8.toNat] W fun e w' => e = .returned (.int .u8 (ev pl x8).toNat) ∧ ∃ q, w' = W.drewN q) := Lib.hid fun pa pc W hW => at_any pa pl need pc x8 W hpl2.out.symm (by omega) hW
            generalize ev pl x8 = z at *
            generalize b.getD t 0#8 = st at *
            have Hb := Lib.hid hb
            have HAll := Lib.hid hall
            have HTL := Lib.hid htl
            have HMLL := Lib.hid hml
            have h1x := u8_xor_bv st z
            clear hb hall hbw kc htl hml hpl
            have HGBW : Hid (gb < wr.heap.size) := Lib.hid (block_lt_of_cell (a := ⟨gb, ob + t, none⟩) kc')
            have HGW : Hid (g < wr.heap.size) := Lib.hid (block_lt_of_cell (a := ⟨g, o + k * 2, none⟩) q1)
            go_wp2_with fail
            go_region_law (first | (refine step_pushB rfl (.tmp 39) (.tmp 60) rfl B2 u10 ((maskL b r need x8).take t) rfl wo (w1'.drewN qa) _ (st ^^^ z) rfl rfl HB3.out HMLL.out (fun v' w' hv' _ _ => ?_)) | (go_simp; go_at_call 31; refine (HAt.out pa pc w1' hbs).mono ?_; rintro e w2 ⟨rfl, qa, rfl⟩; have HB3 := Lib.hid (Hb2.out.drewN qa)) | (go_simp; go_at_call 32; refine (HP.out wr.drew (below_drewN HAll.out 1)).mono ?_; rintro e w1' ⟨vp, rfl, hbp⟩; have Hb2 := Lib.hid ((Hb.out.drewN 1).call hbp.2.1); have q3 := (((below_drewN (Below.refl wr.heap.size wr) 1).trans hbp.2.1).cell (p := ⟨g, o + k * 2, none⟩) HGW.out).trans q1; have q4 := (((below_drewN (Below.refl wr.heap.size wr) 1).trans hbp.2.1).cell (p := ⟨g, o + k * 2 + 1, none⟩) HGW.out).trans q2; have q5 := (((below_drewN (Below.refl wr.heap.size wr) 1).trans hbp.2.1).cell (p := ⟨gb, ob + t, none⟩) HGBW.out).trans kc'; obtain ⟨pa, pc, ev, _, hbs⟩ := (hbp.svx (r := none) (fun k hk => by cases hk)).sv; rw [hpl2.out] at ev; subst ev; clear hbp))
            all_goals
              go_wp2_with fail
              go_roundw
              case rel => exact ⟨t + 1, HTL.out, by go_num, by rw [hsn.out]; exact hv'⟩
              case measure => have := HTL.out; simp [intOf] <;> omega
          · have et : t = ls := by omega
            have ti : ¬ (t : Int) < (ls : Int) := by omega
            rw [et, List.take_of_length_le (by rw [length_maskL, ← HLS.out]; exact Nat.le_refl _)] at hb
            have hsv := hb.svx (fun k hk => by rw [HB2.out]; exact HF.out.own_lt k hk)
            obtain ⟨va, vc, ev, _⟩ := id hsv
            subst ev
            have HF2 := Lib.hid (HF.out.call (by rw [← HB2.out]; exact hb.2.1))
            have HSV := Lib.hid hsv
            have hle : (maskL b r need x8).length = ls := by rw [length_maskL, ← HLS.out]
            have HLE := Lib.hid hle
            generalize maskL b r need x8 = ml at *
            clear hb hsv et htl ht hall hbw
            go_wp2_with (first | ((with_reducible show wpList _ _ _ (Oper.mk _ (Op.call _) _ _ _ _ :: _) _ _); refine wpList_pushF rfl (.tmp 62) (.tmp 70) rfl g1 u8 M rfl w1 wr _ (Shr.mk x8 (.slice va ml.length vc) ml) HSV.out (by show _ = World.alloc wr (.cells #[_, .slice va ml.length vc] 33); rw [HLE.out]) HF2.out wr.heap.size rfl rfl (by rw [HML.out]; omega) (fun v' w' hv' hg => ?_)))
            go_roundw
            case rel => exact ⟨k + 1, HKN.out, by go_num, M ++ [Shr.mk x8 (.slice va ml.length vc) ml], by rw [dat_append]; exact hst.out, hv'⟩
            case measure => have := HKN.out; simp [intOf] <;> omega
      · have ek : k = n := by omega
        have ki : ¬ (k : Int) < (n : Int) := by omega
        rw [ek, List.take_of_length_le (by simp only [refreshL, List.length_map]; rw [length_dat, ← N.out]; exact Nat.le_refl _)] at hM
        obtain ⟨a', c', ev, hcc, hsh⟩ := hF.shs
        rw [hMl, ek] at ev hcc
        subst ev
        have HBw := Lib.hid (HB1.out.trans (hF.buf.2.1.mono HBG.out))
        have HSh := Lib.hid hsh
        have HM := Lib.hid hM
        have HMl : Hid (M.length = n) := Lib.hid (by rw [hMl, ek])
        clear hF hMl hM hsh ek hkn hk
        go_wp2_with fail
        go_ret2
        exact ⟨.inr ⟨Hw.out, a', c', M, rfl, hcc, HM.out, HMl.out, HSh.out⟩, by rw [← HBB.out]; exact HBw.out⟩
end Go.Proofs.Ytpghdiklleedaaa
