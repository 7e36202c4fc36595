/- The contract of the reference's Split. -/
import Derived.Test.YtpghdiklleedaaaPo
import Derived.Test.YtpghdiklleedaaaU
set_option linter.all false
namespace Go.Proofs.Ytpghdiklleedaaa
open Go.RowKit Go.Fen Gf
set_option maxHeartbeats 400000

theorem rsplit_bad (asl ar : Option Addr) (ls lr cs cr : Nat) (p q : Int) (h : p < 1 ∨ q < p ∨ 255 < q) (w : World) :
    Calls Try.prog 17 #[.slice asl ls cs, .slice ar lr cr, .agg #[.int .i64 p, .int .i64 q]] w fun e w' => e = .returned (.tuple #[.slice none 0 0, .int .i64 1]) ∧ Below w.heap.size w w' := by
  by_cases h1 : p < 1
  · have h1' : decide (p < 1) = true := decide_eq_true h1
    clear h
    go_enter Try.func17, Try.ntmps17
    go_wp2
    go_ret2
    exact ⟨rfl, (Below.refl _ _).alloc (Nat.le_refl _) _⟩
  · have h1' : decide (p < 1) = false := decide_eq_false h1
    by_cases h2 : q < p
    · have h2' : decide (q < p) = true := decide_eq_true h2
      clear h
      go_enter Try.func17, Try.ntmps17
      go_wp2
      go_ret2
      exact ⟨rfl, (Below.refl _ _).alloc (Nat.le_refl _) _⟩
    · have h2' : decide (q < p) = false := decide_eq_false h2
      have h3 : 255 < q := by omega
      have h3' : decide (255 < q) = true := decide_eq_true h3
      clear h
      go_enter Try.func17, Try.ntmps17
      go_wp2
      go_ret2
      exact ⟨rfl, (Below.refl _ _).alloc (Nat.le_refl _) _⟩

theorem maskL_take (s r : List (BitVec 8)) (need : Nat) (x : BitVec 8) (t : Nat) (ht : t < s.length) : (maskL s r need x).take (t + 1) = (maskL s r need x).take t ++ [ev (polyOf s r need t) x] := by
  rw [List.take_succ_eq_append_getElem (by rw [length_maskL]; exact ht)]
  congr 2
  have := mask_ev s r need x t ht
  rw [← this]
  simp [List.getD, length_maskL, ht]
theorem splitL_take (s r : List (BitVec 8)) (need n k : Nat) (hk : k < n) : (splitL s r need n).take (k + 1) = (splitL s r need n).take k ++ [(BitVec.ofNat 8 (k + 1), maskL s r need (BitVec.ofNat 8 (k + 1)))] := by
  rw [List.take_succ_eq_append_getElem (by rw [length_splitL]; exact hk)]
  simp [splitL]
theorem BufB.nil0 {w : World} {g : Nat} (hg : g = w.heap.size) : BufB g (.slice (some ⟨g, 0, none⟩) 0 0) [] w (w.alloc (.cells #[] 5)) := by
  subst hg
  exact Buf.lit (Below.refl _ _) (Nat.le_refl _) #[] 0 rfl (by decide) _ rfl

set_option maxRecDepth 20000 in
set_option maxHeartbeats 8000000 in
theorem rsplit_any (asl ar : Option Addr) (s r : List (BitVec 8)) (ls cs lr cr need n : Nat) (h1 : 1 ≤ need) (h2 : need ≤ n) (h3 : n ≤ 255) (els : ls = s.length) (elr : lr = r.length) (hs : ls ≤ 1000000) (hr : lr ≤ 1000000000) (w : World) (B1 : Bs w asl s) (B0 : Bs w ar r) :
    Calls Try.prog 17 #[.slice asl ls cs, .slice ar lr cr, .agg #[.int .i64 need, .int .i64 n]] w fun e w' =>
      ∃ a c, e = .returned (.tuple #[.slice a n c, .int .i64 0]) ∧ n ≤ c ∧ ∃ M, dat M = splitL s r need n ∧ M.length = n ∧ Shs w' a M ∧ Below w.heap.size w w' := by
  obtain ⟨B, hB⟩ : ∃ B, B = w.heap.size := ⟨_, rfl⟩
  obtain ⟨W1, hW1⟩ : ∃ W, W = w.alloc (.cells #[.int .i64 need, .int .i64 n] 30) := ⟨_, rfl⟩
  have hrow : Row W1 B 30 #[.int .i64 need, .int .i64 n] := by rw [hW1]; exact Row.new' _ _ hB
  have hbel : Below B w W1 := by rw [hW1, hB]; exact (Below.refl _ _).alloc (Nat.le_refl _) _
  have hs1 : W1.heap.size = B + 1 := by rw [hW1, hB]; simp
  obtain ⟨W2, hW2⟩ : ∃ W, W = W1.alloc (.cells #[] 33) := ⟨_, rfl⟩
  have hF0 : BufF (B + 1) (.slice (some ⟨B + 1, 0, none⟩) 0 0) [] W1 W2 := by rw [hW2, ← hs1]; exact BufF.nil (BufS.lit0 rfl (Below.refl _ _))
  have hn0 := hrow.cell 0
  have hn1 := hrow.cell 1
  simp only [List.getElem?_toArray, List.getElem?_cons_zero, List.getElem?_cons_succ] at hn0 hn1
  have HB0 := Lib.hid B0
  have HB1 := Lib.hid B1
  have HR := Lib.hid hrow
  have HBel := Lib.hid hbel
  have HS1 := Lib.hid hs1
  have HBB := Lib.hid hB
  have HW1 := Lib.hid hW1
  have HW2 := Lib.hid hW2
  have EL := Lib.hid elr
  have ES := Lib.hid els
  clear B0 B1 hrow hbel hs1 hB hW1 hW2 elr els
  rw [← HBB.out]
  have h1i : ¬ (need : Int) < 1 := by omega
  have h2i : ¬ (n : Int) < (need : Int) := by omega
  have h3i : ¬ (255 : Int) < (n : Int) := by omega
  have h1' : decide ((need : Int) < 1) = false := decide_eq_false h1i
  have h2' : decide ((n : Int) < (need : Int)) = false := decide_eq_false h2i
  have h3' : decide ((255 : Int) < (n : Int)) = false := decide_eq_false h3i
  go_enter Try.func17, Try.ntmps17
  go_wp2_with (first | ((with_reducible show wpList _ _ _ (Oper.mk _ (Op.box _ _) _ _ _ _ :: _) _ _); refine wpList_box_row rfl 30 (.tmp 2) rfl _ rfl B HBB.out ?_; refine wpList_atE HW1.out ?_))
  rw [HS1.out, ← HW2.out]
  clear hn0 hn1 h1i h2i h3i h1' h2' h3'
  go_loopw [8, 9] (fun v ix wr => ∃ k : Nat, k ≤ n ∧ ix = .int .i64 ((k : Int) + 1) ∧ ∃ M, dat M = (splitL s r need n).take k ∧ BufF (B + 1) v M W1 wr) (fun _ ix _ => n + 1 - (intOf ix).toNat)
  case atStart => exact ⟨0, by omega, rfl, [], rfl, hF0⟩
  case round =>
    clear hF0
    obtain ⟨k, hk, rfl, M, hM, hF⟩ := hrel
    have hrow := HR.out.below hF.buf.2.1 (Nat.lt_succ_self _)
    have n0 := hrow.cell 0
    have n1 := hrow.cell 1
    simp only [List.getElem?_toArray, List.getElem?_cons_zero, List.getElem?_cons_succ] at n0 n1
    have hMl : M.length = k := by rw [← length_dat, hM, List.length_take, length_splitL]; omega
    by_cases hkn : k < n
    · have ki : (k : Int) + 1 ≤ (n : Int) := by omega
      have k255 : (k : Int) + 1 ≤ 255 := by omega
      obtain ⟨x8, hx8⟩ : ∃ x, x = BitVec.ofNat 8 (k + 1) := ⟨_, rfl⟩
      have hxn : ((x8.toNat : Nat) : Int) = (k : Int) + 1 := by rw [hx8, BitVec.toNat_ofNat, Nat.mod_eq_of_lt (by omega)]; omega
      have hst : Hid (dat M ++ [(x8, maskL s r need x8)] = (splitL s r need n).take (k + 1)) := Lib.hid (by rw [splitL_take _ _ _ _ _ hkn, hM, hx8])
      obtain ⟨B2, hB2⟩ : ∃ g, g = wr.heap.size := ⟨_, rfl⟩
      obtain ⟨W3, hW3⟩ : ∃ W, W = wr.alloc (.cells #[] 5) := ⟨_, rfl⟩
      have hb0 : BufB B2 (.slice (some ⟨B2, 0, none⟩) 0 0) ((maskL s r need x8).take 0) wr W3 := by rw [hW3]; exact BufB.nil0 hB2
      have HF := Lib.hid hF
      have HB2 := Lib.hid hB2
      have HW3 := Lib.hid hW3
      have HML := Lib.hid hMl
      have HX8 := Lib.hid hx8
      have HXN := Lib.hid hxn
      have HRow := Lib.hid hrow
      have HKN := Lib.hid hkn
      clear hF hM hB2 hW3 hMl hx8 hxn hrow hkn
      obtain ⟨wo, ewo⟩ : ∃ wo, wo = wr := ⟨_, rfl⟩
      rw [← ewo] at HF HB2 HW3 HRow hb0 n0 n1 ⊢
      clear ewo
      clear wr
      go_wp2_with fail
      rw [← HB2.out, ← HW3.out]
      clear n0 n1
      go_loopw [10, 11] (fun v ij wr => ∃ t : Nat, t ≤ ls ∧ ij = .int .i64 t ∧ BufB B2 v ((maskL s r need x8).take t) wo wr) (fun _ ij _ => ls - (intOf ij).toNat)
      case atStart => exact ⟨0, by omega, rfl, hb0⟩
      case round =>
        clear hb0
        obtain ⟨t, ht, rfl, hb⟩ := hrel
        by_cases htl : t < ls
        · have ti : (t : Int) < (ls : Int) := by omega
          have hB2w : wo.heap.size ≤ B2 := Nat.le_of_eq HB2.out.symm
          have hbw : Below B2 wo wr := hb.2.1
          have hall : Below B w wr := HBel.out.trans ((HF.out.buf.2.1.mono (Nat.le_succ B)).trans (hbw.mono (by rw [HB2.out]; have := HRow.out.lt; omega)))
          obtain ⟨g, o, ea, kc⟩ : ∃ g o, asl = some ⟨g, o, none⟩ ∧ w.cell? ⟨g, o + t, none⟩ = some (.int .u8 (s.getD t 0#8).toNat) := by
            rcases HB1.out with h | ⟨g, o, e, hc⟩
            · have := ES.out; rw [h] at this; simp at this; omega
            · exact ⟨g, o, e, hc t (by rw [← ES.out]; exact htl)⟩
          subst ea
          have kc' := (hall.cell (p := ⟨g, o + t, none⟩) (by show g < B; rw [HBB.out]; exact block_lt_of_cell (a := ⟨g, o + t, none⟩) kc)).trans kc
          have hr2 := HRow.out.below hbw (by rw [HB2.out]; exact HRow.out.lt)
          have n0 := hr2.cell 0
          simp only [List.getElem?_toArray, List.getElem?_cons_zero, List.getElem?_cons_succ] at n0
          have hsn := Lib.hid (maskL_take s r need x8 t (by rw [← ES.out]; exact htl))
          have HP : Hid (∀ W, Below B w W → Calls Try.prog 32 #[.int .u8 (s.getD t 0#8).toNat, .slice ar lr cr, .agg #[.int .i64 need, .int .i64 t]] W fun e w' => ∃ v, e = .returned v ∧ BufB W.heap.size v (polyOf s r need t) W w') := Lib.hid fun W hW => poly_any ar (s.getD t 0#8) r lr cr need t h1 (by omega) (by omega) EL.out hr W (HB0.out.below hW (Nat.le_of_eq HBB.out.symm))
          have hpl : Hid ((polyOf s r need t).length = need) := Lib.hid (length_polyOf _ _ _ _ h1)
          have hml : ((maskL s r need x8).take t).length ≤ 1000000 := by rw [List.length_take]; omega
          have HAt : Hid (∀ pa pc W, Bs W pa (polyOf s r need t) → Calls Try.prog 31 #[.slice pa need pc, .int .u8 ((k : Int) + 1)] W fun e w' => e = .returned (.int .u8 (ev (polyOf s r need t) x8).toNat) ∧ ∃ q, w' = W.drewN q) := Lib.hid fun pa pc W hW => by
            have := at_any pa (polyOf s r need t) need pc x8 W hpl.out.symm (by omega) hW
            rw [HXN.out] at this
            exact this
          generalize ev (polyOf s r need t) x8 = z at *
          generalize polyOf s r need t = pl at *
          generalize s.getD t 0#8 = st at *
          have HWRAP : Hid (IntKind.u8.wrap ((k : Int) + 1) = (k : Int) + 1) := Lib.hid (by
            have hb' : IntKind.u8.bits = 8 := rfl
            have hs' : IntKind.u8.signed = false := rfl
            simp [IntKind.wrap, hb', hs']
            omega)
          have Hb := Lib.hid hb
          have HAll := Lib.hid hall
          have HTL := Lib.hid htl
          have HMLL := Lib.hid hml
          clear hb hall hr2 hbw hB2w kc htl hml
          go_wp2_with fail
          go_region_law (first | (refine step_pushB rfl (.tmp 41) (.tmp 55) rfl B2 u10 ((maskL s r need x8).take t) rfl wo (w1.drewN qa) _ z rfl rfl HB3.out HMLL.out (fun v' w' hv' _ _ => ?_)) | (go_simp; go_at_call 31; rw [HWRAP.out]; refine (HAt.out pa pc w1 hbs).mono ?_; rintro e w2 ⟨rfl, qa, rfl⟩; have HB3 := Lib.hid (Hb2.out.drewN qa)) | (go_simp; go_at_call 32; refine (HP.out wr.drew (below_drewN HAll.out 1)).mono ?_; rintro e w1 ⟨vp, rfl, hbp⟩; have Hb2 := Lib.hid ((Hb.out.drewN 1).call hbp.2.1); obtain ⟨pa, pc, ev, _, hbs⟩ := (hbp.svx (r := none) (fun k hk => by cases hk)).sv; rw [hpl.out] at ev; subst ev; clear hbp))
          all_goals
            go_wp2_with fail
            go_roundw
            case rel => exact ⟨t + 1, HTL.out, by go_num, by rw [hsn.out]; exact hv'⟩
            case measure => have := HTL.out; simp [intOf] <;> omega
        · have et : t = ls := by omega
          have ti : ¬ (t : Int) < (ls : Int) := by omega
          rw [et, List.take_of_length_le (by rw [length_maskL, ← ES.out]; exact Nat.le_refl _)] at hb
          have hsv := hb.svx (fun k hk => by rw [HB2.out]; exact HF.out.own_lt k hk)
          obtain ⟨va, vc, ev, _⟩ := id hsv
          subst ev
          have HF2 := Lib.hid (HF.out.call (by rw [← HB2.out]; exact hb.2.1))
          have HSV := Lib.hid hsv
          have hle : (maskL s r need x8).length = ls := by rw [length_maskL, ← ES.out]
          have HLE := Lib.hid hle
          generalize maskL s r need x8 = ml at *
          clear hb hsv et htl ht
          have hxn := HXN.out
          go_wp2_with (first | ((with_reducible show wpList _ _ _ (Oper.mk _ (Op.call _) _ _ _ _ :: _) _ _); refine wpList_pushF rfl (.tmp 57) (.tmp 62) rfl (B + 1) u8 M rfl W1 wr _ (Shr.mk x8 (.slice va ml.length vc) ml) HSV.out (by rw [hxn]; show _ = World.alloc wr (.cells #[_, .slice va ml.length vc] 33); rw [HLE.out]) HF2.out wr.heap.size rfl rfl (by rw [HML.out]; omega) (fun v' w' hv' hg => ?_)))
          go_roundw
          case rel => exact ⟨k + 1, HKN.out, by go_num, M ++ [Shr.mk x8 (.slice va ml.length vc) ml], by rw [dat_append]; exact hst.out, hv'⟩
          case measure => have := HKN.out; simp [intOf] <;> omega
    · have ek : k = n := by omega
      have ki : ¬ (k : Int) + 1 ≤ (n : Int) := by omega
      rw [ek, List.take_of_length_le (by rw [length_splitL]; exact Nat.le_refl _)] at hM
      obtain ⟨a', c', ev, hcc, hsh⟩ := hF.shs
      rw [hMl, ek] at ev hcc
      subst ev
      have HBw := Lib.hid (HBel.out.trans (hF.buf.2.1.mono (Nat.le_succ B)))
      have HSh := Lib.hid hsh
      have HM := Lib.hid hM
      have HMl : Hid (M.length = n) := Lib.hid (by rw [hMl, ek])
      clear hF hrow hMl hM hsh ek hkn hk
      go_wp2_with fail
      go_ret2
      exact ⟨a', c', rfl, hcc, M, HM.out, HMl.out, HSh.out, HBw.out⟩
end Go.Proofs.Ytpghdiklleedaaa
