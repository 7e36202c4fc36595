/- The contract of the reference's Values. -/
import Derived.Test.YtpghdiklleedaaaWg
import Derived.Test.YtpghdiklleedaaaRs
set_option linter.all false
namespace Go.Proofs.Ytpghdiklleedaaa
open Go.RowKit Go.Fen Gf
set_option maxHeartbeats 400000

theorem interpL_take (D : Dat) (x : BitVec 8) (i : Nat) (hi : i < (dB D 0).length) : (interpL D x).take (i + 1) = (interpL D x).take i ++ [vF D x i D.length] := by
  rw [List.take_succ_eq_append_getElem (by simp [interpL]; exact hi)]
  simp [interpL]
theorem length_interpL (D : Dat) (x : BitVec 8) : (interpL D x).length = (dB D 0).length := by simp [interpL]
theorem wtL_get (D : Dat) (x : BitVec 8) (k : Nat) (hk : k < D.length) : (wtL D x).getD k 0#8 = wF D x k D.length := by simp [wtL, List.getD, hk]

set_option maxRecDepth 20000 in
set_option maxHeartbeats 4000000 in
theorem values_any (a : Option Addr) (L : List Shr) (n c m : Nat) (x : BitVec 8) (en : n = L.length) (hn0 : 0 < n) (hL : n ≤ 1000000) (hm : m ≤ 1000000) (hlen : ∀ k, k < n → (L.getD k zs).b.length = m) (w : World) (hs : Shs w a L) :
    Calls Try.prog 38 #[.slice a n c, .int .u8 x.toNat] w fun e w' => ∃ v, e = .returned v ∧ BufB w.heap.size v (interpL (dat L) x) w w' := by
  obtain ⟨B, hB⟩ : ∃ B, B = w.heap.size := ⟨_, rfl⟩
  have hwt := weights_any a L n c x en hL w hs
  have N := Lib.hid en
  have HBB := Lib.hid hB
  obtain ⟨g, o, ea, hc⟩ : ∃ g o, a = some ⟨g, o, none⟩ ∧ ∀ i, i < L.length → w.cell? ⟨g, o + i * 2, none⟩ = some (.int .u8 (L.getD i zs).x.toNat) ∧ w.cell? ⟨g, o + i * 2 + 1, none⟩ = some (L.getD i zs).v := by
    rcases hs.cells with h | h
    · rw [h] at en; simp at en; omega
    · exact h
  subst ea
  have hg : g < B := by rw [hB]; exact block_lt_of_cell (a := ⟨g, o + 0 * 2, none⟩) (hc 0 (by omega)).1
  have HC : Hid (∀ k, k < n → ∃ ak ck, w.cell? ⟨g, o + k * 2 + 1, none⟩ = some (.slice ak m ck) ∧ Bs w ak (L.getD k zs).b) := Lib.hid fun k hk => by
    obtain ⟨ak, ck, ev, _, hbs⟩ := hs.svs k (by rw [← en]; exact hk)
    refine ⟨ak, ck, ?_, hbs⟩
    rw [(hc k (by rw [← en]; exact hk)).2, ev, hlen k hk]
  have hD : Hid ((dat L).length = n) := Lib.hid (by rw [length_dat, en])
  have hI : Hid ((dB (dat L) 0).length = m) := Lib.hid (by rw [dB_dat, hlen 0 hn0])
  have HLen := Lib.hid hlen
  obtain ⟨aL, caL, ec0, _⟩ := HC.out 0 hn0
  have EC0 := Lib.hid ec0
  have HG := Lib.hid hg
  have HN0 := Lib.hid hn0
  have n0i : (0 : Int) < (n : Int) := by omega
  have HWT := Lib.hid hwt
  clear en hs hB hc hlen ec0 hg hn0 hwt
  rw [← HBB.out]
  go_enter Try.func38, Try.ntmps38
  go_wp2_with fail
  refine (HWT.out).mono ?_
  rintro e w1 ⟨vw, rfl, hbw⟩
  rw [← HBB.out] at hbw
  obtain ⟨pw, pcw, ev, _, hbsw⟩ := (hbw.svx (r := none) (fun k hk => by cases hk)).sv
  rw [length_wtL, hD.out] at ev
  subst ev
  have hb1 : Below B w w1 := hbw.2.1
  have hB1 : B ≤ w1.heap.size := hbw.2.2
  obtain ⟨g2, hg2⟩ : ∃ g, g = w1.heap.size := ⟨_, rfl⟩
  obtain ⟨W2, hW2⟩ : ∃ W, W = w1.alloc (.cells #[] 5) := ⟨_, rfl⟩
  have hb0 : BufB g2 (.slice (some ⟨g2, 0, none⟩) 0 0) ((interpL (dat L) x).take 0) w1 W2 := by rw [hW2]; exact BufB.nil0 hg2
  have HB1 := Lib.hid hb1
  have HBL : Hid (B ≤ g2) := Lib.hid (by rw [hg2]; exact hB1)
  have HBSW := Lib.hid hbsw
  have HG2 := Lib.hid hg2
  have HW2 := Lib.hid hW2
  clear hbw hb1 hB1 hbsw hg2 hW2
  go_wp2_with fail
  rw [← HG2.out, ← HW2.out]
  go_loopw [6, 7] (fun v ij wr => ∃ i : Nat, i ≤ m ∧ ij = .int .i64 i ∧ BufB g2 v ((interpL (dat L) x).take i) w1 wr) (fun _ ij _ => m - (intOf ij).toNat)
  case atStart => exact ⟨0, by omega, rfl, hb0⟩
  case round =>
    clear hb0
    obtain ⟨i, hi, rfl, hb⟩ := hrel
    have Hb := Lib.hid hb
    have hall0 : Below B w wr := HB1.out.trans (hb.2.1.mono HBL.out)
    have c0 := (hall0.cell (p := ⟨g, o + 0 * 2 + 1, none⟩) HG.out).trans EC0.out
    rw [Nat.zero_mul, Nat.add_zero] at c0
    have HAll0 := Lib.hid hall0
    clear hb hall0
    by_cases him : i < m
    · have ii : (i : Int) < (m : Int) := by omega
      have HIM := Lib.hid him
      have hst := Lib.hid (interpL_take (dat L) x i (by rw [hI.out]; exact him))
      have hml : ((interpL (dat L) x).take i).length ≤ 1000000 := by rw [List.length_take]; omega
      have HML := Lib.hid hml
      obtain ⟨wo, ewo⟩ : ∃ wo, wo = wr := ⟨_, rfl⟩
      rw [← ewo] at Hb HAll0 c0 ⊢
      clear ewo hml
      clear wr
      go_wp2_with fail
      clear c0
      go_loopw [8, 9] (fun vs kj wr => ∃ k : Nat, k ≤ n ∧ kj = .int .i64 k ∧ vs = .int .u8 (vF (dat L) x i k).toNat ∧ ∃ q, wr = wo.drewN q) (fun _ kj _ => n - (intOf kj).toNat)
      case atStart => exact ⟨0, by omega, rfl, rfl, 0, rfl⟩
      case round =>
        obtain ⟨k, hk, rfl, rfl, q, rfl⟩ := hrel
        by_cases hkn : k < n
        · have ki : (k : Int) < (n : Int) := by omega
          have HKN := Lib.hid hkn
          obtain ⟨wr, hwr⟩ : ∃ W, W = wo.drewN q := ⟨_, rfl⟩
          have hbq := Hb.out.drewN q
          rw [← hwr] at hbq ⊢
          have hall : Below B w wr := HB1.out.trans (hbq.2.1.mono HBL.out)
          obtain ⟨ak, ck, eck, hbk⟩ := HC.out k hkn
          obtain ⟨gk, ok, eak, kc⟩ : ∃ gk ok, ak = some ⟨gk, ok, none⟩ ∧ w.cell? ⟨gk, ok + i, none⟩ = some (.int .u8 ((L.getD k zs).b.getD i 0#8).toNat) := by
            have hl := HLen.out k hkn
            rcases hbk with h | ⟨g', o', e, hcc⟩
            · rw [h] at hl; simp at hl; omega
            · exact ⟨g', o', e, hcc i (by rw [hl]; exact HIM.out)⟩
          subst eak
          obtain ⟨gw, ow, epw, wc⟩ : ∃ gw ow, pw = some ⟨gw, ow, none⟩ ∧ w1.cell? ⟨gw, ow + k, none⟩ = some (.int .u8 (wF (dat L) x k n).toNat) := by
            rcases HBSW.out with h | ⟨g', o', e, hcc⟩
            · have hl := length_wtL (dat L) x; rw [h, hD.out] at hl; simp at hl; omega
            · have := hcc k (by rw [length_wtL, hD.out]; exact hkn)
              rw [wtL_get _ _ _ (by rw [hD.out]; exact hkn), hD.out] at this
              exact ⟨g', o', e, this⟩
          subst epw
          have cs := (hall.cell (p := ⟨g, o + k * 2 + 1, none⟩) HG.out).trans eck
          have cb := (hall.cell (p := ⟨gk, ok + i, none⟩) (by rw [HBB.out]; exact block_lt_of_cell (a := ⟨gk, ok + i, none⟩) kc)).trans kc
          have cw := (hbq.2.1.cell (p := ⟨gw, ow + k, none⟩) (by rw [HG2.out]; exact block_lt_of_cell (a := ⟨gw, ow + k, none⟩) wc)).trans wc
          have so : vF (dat L) x i (k + 1) = vF (dat L) x i k ^^^ mul (wF (dat L) x k n) ((L.getD k zs).b.getD i 0#8) := by rw [vF, dB_dat, hD.out]
          have M1 := Lib.hid (fun W => rmul_q (wF (dat L) x k n) ((L.getD k zs).b.getD i 0#8) W)
          have SO := Lib.hid so
          have HWR := Lib.hid hwr
          clear so hwr hbq hall eck hbk kc wc hkn
          obtain ⟨s', hs'⟩ : ∃ z, z = vF (dat L) x i (k + 1) := ⟨_, rfl⟩
          rw [← hs'] at SO
          have HS' := Lib.hid hs'
          clear hs'
          generalize vF (dat L) x i k = s0 at *
          generalize (L.getD k zs).b.getD i 0#8 = bb at *
          generalize wF (dat L) x k n = ww at *
          generalize hp : mul ww bb = pp at *
          have h1 := u8_xor_bv s0 pp
          go_wp2_with fail
          go_quiet (first | (go_at_call 13; exact Calls.quiet_of (M1.out _)))
          go_wp2_with fail
          go_roundw
          case rel => exact ⟨k + 1, HKN.out, by go_num, by rw [← HS'.out, SO.out]; try rw [BitVec.toNat_xor], q + nq, by rw [HWR.out, World.drewN_drewN]⟩
          case measure => have := HKN.out; simp [intOf] <;> omega
        · have ek : k = n := by omega
          rw [ek]
          have ki : ¬ (n : Int) < (n : Int) := by omega
          have Hbq := Lib.hid (Hb.out.drewN q)
          rw [hD.out] at hst
          generalize vF (dat L) x i n = z at *
          clear ek hkn hk
          generalize wo.drewN q = wr at *
          go_wp2_with (first | ((with_reducible show wpList _ _ _ (Oper.mk _ (Op.call _) _ _ _ _ :: _) _ _); refine wpList_pushB rfl (.tmp 44) (.tmp 46) rfl g2 _ ((interpL (dat L) x).take i) rfl w1 wr _ z rfl rfl Hbq.out HML.out (fun v' w' hv' hg => ?_)))
          go_roundw
          case rel => exact ⟨i + 1, HIM.out, by go_num, by rw [hst.out]; exact hv'⟩
          case measure => have := HIM.out; simp [intOf] <;> omega
    · have ei : i = m := by omega
      have ii : ¬ (i : Int) < (m : Int) := by omega
      have hb2 := Hb.out
      rw [List.take_of_length_le (by rw [length_interpL, hI.out]; omega)] at hb2
      have Hb2 := Lib.hid (hb2.mono HBL.out HB1.out)
      clear hb2 Hb
      go_wp2_with fail
      go_ret
      exact ⟨_, rfl, Hb2.out⟩
end Go.Proofs.Ytpghdiklleedaaa
