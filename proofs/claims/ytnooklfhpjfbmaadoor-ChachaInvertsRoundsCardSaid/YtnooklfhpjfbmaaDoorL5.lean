/- The law ChachaInvertsRounds: its walk. -/
import Derived.Test.YtnooklfhpjfbmaaDoorK
set_option linter.all false
namespace Go.Proofs.YtnooklfhpjfbmaaDoor
open Go.RowKit Go.Fen
set_option linter.unusedVariables false
set_option maxHeartbeats 400000

theorem Tryd.n44' : (Tryd.prog.info? 44).map (·.size) = some 4 := Tryd.n44

theorem shl_or_bits (x : BitVec 32) (y : BitVec 8) : bits BinOp.or IntKind.u32 ((x.toNat : Int) * 256 % 4294967296) (y.toNat : Int) = ((x <<< 8 ||| y.setWidth 32).toNat : Int) := by
  have e0 : (x <<< 8).toNat = x.toNat * 256 % 4294967296 := by rw [BitVec.toNat_shiftLeft, Nat.shiftLeft_eq]
  have e2 : (y.setWidth 32).toNat = y.toNat := by
    rw [BitVec.toNat_setWidth, Nat.mod_eq_of_lt (by have := y.isLt; omega : y.toNat < 2 ^ 32)]
  have h := u32_or_bv (x <<< 8) (y.setWidth 32)
  rw [e0, e2] at h
  rw [← h]
  rfl

/-- what the second half of the law's walk is told -/
structure LInv (B gf gb : Nat) (W0 w : World) (f : List (BitVec 32)) (blk : List (BitVec 8)) : Prop where
  hf : ∀ i, i < 16 → w.cell? ⟨gf, i, none⟩ = some (.int .u32 (f.getD i 0#32).toNat)
  hb : ∀ i, i < 64 → w.cell? ⟨gb, i, none⟩ = some (.int .u8 (blk.getD i 0#8).toNat)
theorem LInv.below {B gf gb : Nat} {W0 w w' : World} {f : List (BitVec 32)} {blk : List (BitVec 8)} (h : LInv B gf gb W0 w f blk) (hf : gf < B) (hb : gb < B) (hw : Below B w w') : LInv B gf gb W0 w' f blk :=
  ⟨fun i hi => (hw.cell (p := ⟨gf, i, none⟩) hf).trans (h.hf i hi), fun i hi => (hw.cell (p := ⟨gb, i, none⟩) hb).trans (h.hb i hi)⟩

/-- what the loops that undo the rounds keep -/
structure UInv (B gs cs gl : Nat) (W0 w : World) (l : List (BitVec 32)) : Prop where
  hs : w.ownsRow B 35 1 (.slice (some ⟨gs, 0, none⟩) 16 cs) 16 (wvals l)
  hb : Below B W0 w
  ht : Row w gl 44 (icells qtab)

set_option maxHeartbeats 1000000 in
theorem rounds_walk (a0 : Option Addr) (l0 : List (BitVec 8)) (c0 : Nat) (n : BitVec 32) (h0 : l0.length ≤ 9223372036854775807) (w : World) (hT : Tab w) (B0 : Bs w a0 l0) :
    Calls Tryd.prog 7 #[.slice a0 l0.length c0, .int .u32 n.toNat] w fun e w' => e = .returned (.bool true) ∧ Below w.heap.size w w' := by
  have hmade := fun w' => made_any a0 l0 c0 h0 w'
  generalize hn0 : l0.length = n0 at *
  have Hm := Lib.hid hmade
  have B0' := Lib.hid B0
  have H0 := Lib.hid h0
  clear hmade B0 hn0 h0
  go_enter Tryd.func7, Tryd.ntmps7
  go_wp2_with fail
  refine (sanity_any w hT).mono ?_
  rintro e w1 ⟨rfl, hb1⟩
  go_wp2_with fail
  refine (Hm.out w1 (B0'.out.below hb1 (Nat.le_refl _))).mono ?_
  rintro e w2 ⟨⟨K, N, hK, hN, rfl⟩, hb2⟩
  have hb := hb1.trans (hb2.mono hb1.size)
  clear hb1 hb2
  have nK : (Tryd.prog.info? 25).map (·.size) = some (bcells K).size := by rw [size_bcells K, hK]; exact Tryd.n25
  have nN : (Tryd.prog.info? 26).map (·.size) = some (bcells N).size := by rw [size_bcells N, hN]; exact Tryd.n26
  obtain ⟨g6, e6⟩ : ∃ g, g = w2.heap.size := ⟨_, rfl⟩
  have r6 : Row ((w2.alloc (.cells (bcells K) 25)).alloc (.cells (bcells N) 26)) g6 25 (bcells K) := Row.alloc (Row.new' _ _ e6) _
  have r7 : Row ((w2.alloc (.cells (bcells K) 25)).alloc (.cells (bcells N) 26)) (g6 + 1) 26 (bcells N) := Row.new' _ _ (by simp [e6])
  have hb2 : Below w.heap.size w ((w2.alloc (.cells (bcells K) 25)).alloc (.cells (bcells N) 26)) := (hb.alloc hb.size _).alloc (by have := hb.size; simp; omega) _
  have E6 := Lib.hid e6
  clear e6 hb
  obtain ⟨W, hW⟩ : ∃ W, W = (w2.alloc (.cells (bcells K) 25)).alloc (.cells (bcells N) 26) := ⟨_, rfl⟩
  rw [← hW] at r6 r7 hb2
  have HW := Lib.hid hW
  clear hW
  go_wp2_with (first | ((with_reducible show wpList _ _ _ (Oper.mk _ (Op.alloc _) _ _ _ _ :: _) _ _); (refine wpList_new2 rfl rfl rfl rfl 25 26 6 7 (.tmp 22) (.tmp 23) rfl rfl rfl rfl rfl rfl rfl rfl g6 (g6 + 1) E6.out (by rw [E6.out]) (bcells K) (bcells N) rfl rfl rfl rfl _ _ Tryd.z25 Tryd.z26 nK nN (by rw [size_bcells, size_bcells, hK]; rfl) (by rw [size_bcells, size_bcells, hN]; rfl) (one_bcells _) (one_bcells _) ?_; rw [← HW.out])) | ((with_reducible show wpList _ _ _ (Oper.mk _ (Op.load _ _) _ _ _ _ :: _) _ _); first | (refine wpList_load_arr rfl 25 (.tmp 6) rfl g6 25 (bcells K) Tryd.underlying25 nK rfl r6 ?_) | (refine wpList_load_arr rfl 26 (.tmp 7) rfl (g6 + 1) 26 (bcells N) Tryd.underlying26 nN rfl r7 ?_)))
  refine (rinitial_any K N hK hN n W).mono ?_
  rintro e w3 ⟨vf, rfl, bf⟩
  obtain ⟨gf, cf, rfl, hgf, hgf2, hcf⟩ := bf.form (by omega)
  have p6 := r6.below bf.2.1 r6.lt
  have p7 := r7.below bf.2.1 r7.lt
  have hb3 : Below w.heap.size w w3 := hb2.trans (bf.2.1.mono hb2.size)
  have T3 : Tab w3 := hT.below hb3 hT.lt
  clear r6 r7
  have Bf := Lib.hid bf
  clear bf
  go_wp2_with (first | ((with_reducible show wpList _ _ _ (Oper.mk _ (Op.load _ _) _ _ _ _ :: _) _ _); first | (refine wpList_load_arr rfl 25 (.tmp 6) rfl g6 25 (bcells K) Tryd.underlying25 nK rfl p6 ?_) | (refine wpList_load_arr rfl 26 (.tmp 7) rfl (g6 + 1) 26 (bcells N) Tryd.underlying26 nN rfl p7 ?_)))
  refine (block_any K N hK hN n w3 T3).mono ?_
  rintro e w4 ⟨rfl, hb4⟩
  obtain ⟨bk, hbk⟩ : ∃ b, b = blockL K N n := ⟨_, rfl⟩
  rw [← hbk]
  have lb : bk.length = 64 := by rw [hbk, length_blockL]
  have nb : (Tryd.prog.info? 33).map (·.size) = some (bcells bk).size := by rw [size_bcells, lb]; exact Tryd.n33
  obtain ⟨gb, eb⟩ : ∃ g, g = w4.heap.size := ⟨_, rfl⟩
  obtain ⟨Wb, hWb⟩ : ∃ Wb, Wb = w4.alloc (.cells (bcells bk) 33) := ⟨_, rfl⟩
  have hb5 : Below w.heap.size w Wb := by rw [hWb]; exact (hb3.trans (hb4.mono hb3.size)).alloc (hb3.trans (hb4.mono hb3.size)).size _
  obtain ⟨B, hB⟩ : ∃ B, B = Wb.heap.size := ⟨_, rfl⟩
  have hgfB : gf < B := by rw [hB, hWb]; have := hb4.size; simp; omega
  have hgbB : gb < B := by rw [hB, hWb, eb]; simp
  have hwB : w.heap.size ≤ B := by rw [hB]; exact hb5.size
  have hL : LInv B gf gb Wb Wb (initL K N n) bk := ⟨fun i hi => by
      have h1 := (Bf.out.1.cellAt i (by omega)).trans (get_wvals _ i (by rw [length_initL]; exact hi))
      have h2 := (hb4.cell (p := ⟨gf, i, none⟩) hgf2).trans h1
      rw [hWb]
      exact (World.cell?_of_block (Below.heap_alloc _ _ _ (by show gf < w4.heap.size; have := hb4.size; omega))).trans h2,
    fun i hi => by
      have hr : Row Wb gb 33 (bcells bk) := by rw [hWb]; exact Row.new' _ _ eb
      exact (hr.cell i).trans (get_bcells _ i (by rw [lb]; exact hi))⟩
  have EB := Lib.hid eb
  have HWb := Lib.hid hWb
  have HB := Lib.hid hB
  have HL := Lib.hid hL
  have Hbk := Lib.hid hbk
  have Hlb := Lib.hid lb
  clear eb hWb hL hbk lb hb4 hb3 hb2 T3 p6 p7 Bf hB
  go_wp2_with (first | ((with_reducible show wpList _ _ _ (Oper.mk _ (Op.alloc _) _ _ _ _ :: _) _ _); (refine wpList_new_row rfl rfl 33 9 (.tmp 31) rfl rfl rfl rfl gb EB.out (bcells bk) rfl rfl _ Tryd.z33 nb (by rw [size_bcells, size_bcells, Hlb.out]; rfl) (one_bcells _) ?_; rw [← HWb.out])))
  rw [← HB.out]
  have b0 : Buf B 35 (.slice (some ⟨B, 0, none⟩) 0 0) 0 (wvals ((roundsQ 10 (initL K N n)).take 0)) Wb (Wb.alloc (.cells #[] 35)) := by
    have := Buf.lit (e := 35) (Below.refl B Wb) (Nat.le_of_eq HB.out) #[] 0 rfl (by decide) B HB.out
    simpa [wvals] using this
  have hlr : (roundsQ 10 (initL K N n)).length = 16 := by rw [length_roundsQ, length_initL]
  have hwd : ∀ i, i < 16 → ∀ b : Nat → BitVec 8, (∀ k, k < 4 → b k = bk.getD (4 * i + k) 0#8) → accW b 4 - (initL K N n).getD i 0#32 = (roundsQ 10 (initL K N n)).getD i 0#32 := fun i hi b hb => word_back K N n i hi b (by rw [← Hbk.out]; exact hb)
  obtain ⟨f, ef⟩ : ∃ f, f = initL K N n := ⟨_, rfl⟩
  have hlf : f.length = 16 := by rw [ef, length_initL]
  obtain ⟨r, er⟩ : ∃ r, r = roundsQ 10 f := ⟨_, rfl⟩
  rw [← ef] at HL hlr hwd b0
  rw [← er] at hlr hwd b0
  have ER := Lib.hid er
  have HWD := Lib.hid hwd
  have LR := Lib.hid hlr
  have LF := Lib.hid hlf
  clear er ef hwd hlr hlf
  generalize hW2 : Wb.alloc (.cells #[] 35) = W2 at *
  clear hW2
  go_loopw [10, 11] (fun v i wr => ∃ k : Nat, k ≤ 16 ∧ i = .int .i64 k ∧ Buf B 35 v k (wvals (r.take k)) Wb wr) (fun _ i _ => 16 - (intOf i).toNat)
  case atStart => exact ⟨0, Nat.zero_le _, rfl, b0⟩
  case round =>
    clear b0 W2
    obtain ⟨k, hk, rfl, bs⟩ := hrel
    by_cases hk16 : k < 16
    · have ki : (k : Int) < 16 := by omega
      obtain ⟨wo, ewo⟩ : ∃ wo, wo = wr := ⟨_, rfl⟩
      rw [← ewo] at bs ⊢
      clear ewo wr
      go_wp2_with fail
      go_loopw [12, 13] (fun x j wr => ∃ t : Nat, t ≤ 4 ∧ j = .int .i64 (3 - (t : Int)) ∧ x = .int .u32 (accW (fun q => bk.getD (4 * k + q) 0#8) t).toNat ∧ wr = wo) (fun _ j _ => (intOf j + 1).toNat)
      case atStart => exact ⟨0, by omega, rfl, rfl, rfl⟩
      case round =>
        obtain ⟨t, ht, rfl, rfl, rfl⟩ := hrel
        by_cases ht4 : t < 4
        · obtain ⟨s, es⟩ : ∃ s : Nat, s = 3 - t := ⟨_, rfl⟩
          have esi : 3 - (t : Int) = (s : Int) := by omega
          have si : (s : Int) < 4 := by omega
          have hc := ((HL.out.below hgfB hgbB bs.2.1).hb (4 * k + s) (by omega))
          have hA : accW (fun q => bk.getD (4 * k + q) 0#8) (t + 1) = accW (fun q => bk.getD (4 * k + q) 0#8) t <<< 8 ||| (bk.getD (4 * k + s) 0#8).setWidth 32 := by rw [accW, es]
          have hz := shl_or_bits (accW (fun q => bk.getD (4 * k + q) 0#8) t) (bk.getD (4 * k + s) 0#8)
          rw [← hA] at hz
          generalize hZ : accW (fun q => bk.getD (4 * k + q) 0#8) (t + 1) = z at *
          generalize bk.getD (4 * k + s) 0#8 = y at *
          generalize hx : accW (fun q => bk.getD (4 * k + q) 0#8) t = x at *
          rw [esi]
          have ES := Lib.hid es
          have HZ := Lib.hid hZ
          clear es esi hA hx hZ
          go_wp2_with fail
          try rw [hz]
          go_roundw
          case rel => exact ⟨t + 1, by omega, by have := ES.out; rw [show (3 - ((t + 1 : Nat) : Int)) = (s : Int) - 1 by omega], by rw [HZ.out], by trivial⟩
          case measure => simp [intOf] <;> omega
        · have e4 : Hid (t = 4) := Lib.hid (by omega)
          have hx4 : Hid (accW (fun q => bk.getD (4 * k + q) 0#8) t = accW (fun q => bk.getD (4 * k + q) 0#8) 4) := Lib.hid (by rw [e4.out])
          generalize hx : accW (fun q => bk.getD (4 * k + q) 0#8) t = x at *
          have hti : ¬ ((t : Int) ≤ 3) := by omega
          clear hx
          have hc := ((HL.out.below hgfB hgbB bs.2.1).hf k (by omega))
          have hs := u32_sub_wrap x (f.getD k 0#32)
          have hu : Hid (x - f.getD k 0#32 = r.getD k 0#32) := Lib.hid (by rw [hx4.out]; exact HWD.out k hk16 _ (fun q _ => rfl))
          rw [hu.out] at hs
          have hr1 : Hid (wvals (r.take k) ++ [.int .u32 ((r.getD k 0#32).toNat : Int)] = wvals (r.take (k + 1))) := Lib.hid (by
            have hk' : k < r.length := by rw [LR.out]; exact hk16
            rw [push_wvals]
            congr 1
            rw [List.take_succ_eq_append_getElem hk']
            simp [List.getD, hk'])
          generalize r.getD k 0#32 = u at *
          generalize f.getD k 0#32 = fk at *
          have BS := Lib.hid bs
          clear bs hu hx4
          go_wp2_with (first | ((with_reducible show wpList _ _ _ (Oper.mk _ (Op.call _) _ _ _ _ :: _) _ _); (refine wpList_push rfl (.tmp 51) (.tmp 58) 38 rfl B 35 (.int .u32 0) 4 Tryd.underlying38 Tryd.info35 rfl u10 k _ rfl Wb wr _ (.int .u32 u.toNat) rfl rfl BS.out rfl (by unfold maxLen; omega) (by omega) (fun v' w' hv' _ => ?_))))
          go_roundw
          case rel => exact ⟨k + 1, by omega, by go_num, by rw [← hr1.out]; exact hv'⟩
          case measure => simp [intOf] <;> omega
    · have bs16 : Buf B 35 u10 16 (wvals r) Wb wr := by
        have e : k = 16 := by omega
        rw [e, List.take_of_length_le (by rw [LR.out]; exact Nat.le_refl _)] at bs
        exact bs
      have hge : 16 ≤ k := by omega
      clear bs hk16
      obtain ⟨gs, cs, rfl, hgs, hgs2, hcs⟩ := bs16.form (by omega)
      have BS := Lib.hid bs16
      clear bs16
      go_wp2_with fail
      refine (quarters_any wr).mono ?_
      rintro e wq ⟨rfl, hwq⟩
      obtain ⟨gl, egl⟩ : ∃ g, g = wr.heap.size := ⟨_, rfl⟩
      rw [← egl]
      have inv0 : UInv B gs cs gl Wb wq (roundsQ (10 - 0) f) := ⟨by rw [hwq]; have := (BS.out.alloc (.cells (icells qtab) 44)).1; rw [ER.out] at this; exact this,
        by rw [hwq]; exact (BS.out.alloc (.cells (icells qtab) 44)).2.1, by rw [hwq]; exact Row.new' _ _ egl⟩
      have hne : gl ≠ gs := by omega
      have hBl : B ≤ gl := by rw [egl]; exact BS.out.2.2
      clear egl hwq BS hgs2
      go_wp2_with fail
      go_loopw [15] (fun i wr => ∃ k : Nat, k ≤ 10 ∧ i = .int .i64 k ∧ UInv B gs cs gl Wb wr (roundsQ (10 - k) f)) (fun i _ => 10 - (intOf i).toNat)
      case atStart => exact ⟨0, Nat.zero_le _, rfl, inv0⟩
      case round =>
        clear inv0 wq
        obtain ⟨k', hk', rfl, inv⟩ := hrel
        by_cases hk10 : k' < 10
        · have ki : (k' : Int) < 10 := by omega
          have inv8 : UInv B gs cs gl Wb wr (innerQ 8 (roundsQ (9 - k') f)) := by
            have e : 10 - k' = (9 - k') + 1 := by omega
            rw [e, roundsQ] at inv
            exact inv
          have el : 10 - (k' + 1) = 9 - k' := by omega
          have EL : Hid (roundsQ (10 - (k' + 1)) f = roundsQ (9 - k') f) := Lib.hid (by rw [el])
          have hll : (roundsQ (9 - k') f).length = 16 := by rw [length_roundsQ, LF.out]
          generalize roundsQ (9 - k') f = q at *
          clear inv el
          go_wp2_with fail
          go_loopw [16] (fun i wr => ∃ t : Nat, t ≤ 8 ∧ i = .int .i64 ((t : Int) - 1) ∧ UInv B gs cs gl Wb wr (innerQ t q)) (fun i _ => (intOf i + 1).toNat)
          case atStart => exact ⟨8, by omega, rfl, inv8⟩
          case round =>
            clear inv8
            obtain ⟨t, ht, rfl, inv⟩ := hrel
            by_cases ht0 : 0 < t
            · obtain ⟨j, ej⟩ : ∃ j, t = j + 1 := ⟨t - 1, by omega⟩
              have ejt : (t : Int) - 1 = (j : Int) := by omega
              have hj : j < 8 := by omega
              have ji : (j : Int) < 8 := by omega
              rw [ejt]
              obtain ⟨⟨q0, q1, q2, q3⟩, q4, q5, q6, q7, q8, q9⟩ := qi_facts j hj
              have hq : wr.rangeAt gl (j * 4) [Value.int .i64 (qi j 0 : Nat), Value.int .i64 (qi j 1 : Nat), Value.int .i64 (qi j 2 : Nat), Value.int .i64 (qi j 3 : Nat)] := fun i v hv => by
                rw [Nat.mul_comm j 4]
                exact (inv.ht.cell (4 * j + i)).trans (qtab_cells j hj i v hv)
              have hrow := inv.hs
              rw [ej] at hrow
              have hlq : (innerQ (j + 1) q).length = 16 := by rw [length_innerQ, hll]
              have hback := fun W (h : W.ownsRow B 35 1 (.slice (some ⟨gs, 0, none⟩) 16 cs) 16 (wvals (innerQ (j + 1) q))) => back_any B gs cs (qi j 0) (qi j 1) (qi j 2) (qi j 3) _ hlq q0 q1 q2 q3 q4 q5 q6 q7 q8 q9 W h
              rw [undo_inner j hj q hll] at hback
              generalize qi j 0 = a at *
              generalize qi j 1 = b at *
              generalize qi j 2 = c at *
              generalize qi j 3 = d at *
              have HBk := Lib.hid hback
              have HQ := Lib.hid hq
              have HR := Lib.hid hrow
              have Inv := Lib.hid inv
              clear hback hq hrow inv hlq ej ejt ht0 ht q0 q1 q2 q3 q4 q5 q6 q7 q8 q9
              go_wp2_with (first | ((with_reducible show wpList _ _ _ (Oper.mk _ (Op.load _ _) _ _ _ _ :: _) _ _); refine wpList_load_mid rfl 44 (.tmp 75) rfl gl (j * 4) rfl [Value.int .i64 (a : Nat), Value.int .i64 (b : Nat), Value.int .i64 (c : Nat), Value.int .i64 (d : Nat)] _ HQ.out Tryd.underlying44 rfl Tryd.n44 ?_))
              refine (HBk.out wr HR.out).mono ?_
              rintro e wb ⟨rfl, hgr, ho⟩
              have inv' : Hid (UInv B gs cs gl Wb wb (innerQ j q)) := Lib.hid ⟨ho, Inv.out.hb.grown hgr (Nat.le_trans (Nat.le_of_eq HB.out.symm.symm) Inv.out.hb.size) (fun k hk => by simp at hk; omega), Inv.out.ht.grown hgr (by simpa using hne)⟩
              clear hgr ho Inv HR HQ HBk
              go_wp2_with fail
              go_roundw
              case rel => exact ⟨j, by omega, rfl, inv'.out⟩
              case measure => simp [intOf] <;> omega
            · have inv0 : UInv B gs cs gl Wb wr (roundsQ (10 - (k' + 1)) f) := by
                have e : t = 0 := by omega
                rw [e, innerQ, ← EL.out] at inv
                exact inv
              rw [show ((t : Int) - 1) = -1 by omega]
              clear inv ht0 ht
              go_wp2_with fail
              go_roundw
              case rel => exact ⟨k' + 1, by omega, by go_num, inv0⟩
              case measure => simp [intOf] <;> omega
        · have inv0 : UInv B gs cs gl Wb wr f := by
            have e : k' = 10 := by omega
            rw [e] at inv
            exact inv
          have hge' : 10 ≤ k' := by omega
          clear inv hk10
          go_wp2_with fail
          go_loopw [17] (fun i wr => ∃ k : Nat, k ≤ 16 ∧ i = .int .i64 k ∧ UInv B gs cs gl Wb wr f) (fun i _ => 16 - (intOf i).toNat)
          case atStart => exact ⟨0, Nat.zero_le _, rfl, inv0⟩
          case round =>
            clear inv0
            obtain ⟨i, hi, rfl, inv⟩ := hrel
            by_cases hi16 : i < 16
            · have ii : (i : Int) < 16 := by omega
              have c1 := (inv.hs.cellAt i (by omega)).trans (get_wvals _ i (by rw [LF.out]; exact hi16))
              have c2 := (HL.out.below hgfB hgbB inv.hb).hf i hi16
              have Inv := Lib.hid inv
              generalize f.getD i 0#32 = x at *
              clear inv
              go_wp2_with fail
              go_quiet (fail)
              go_wp2_with fail
              go_roundw
              case rel => exact ⟨i + 1, by omega, by go_num, ⟨Inv.out.hs, below_drewN Inv.out.hb _, Inv.out.ht⟩⟩
              case measure => simp [intOf] <;> omega
            · have hbf := hb5.trans (inv.hb.mono hwB)
              clear inv
              go_wp2_with fail
              go_ret
              exact ⟨rfl, hbf⟩
end Go.Proofs.YtnooklfhpjfbmaaDoor
