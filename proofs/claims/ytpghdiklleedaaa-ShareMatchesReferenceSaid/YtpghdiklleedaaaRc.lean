/- The contract of the reference's Combine. -/
import Derived.Test.YtpghdiklleedaaaSo
import Derived.Test.YtpghdiklleedaaaVa
set_option linter.all false
namespace Go.Proofs.Ytpghdiklleedaaa
open Go.RowKit Go.Fen Gf
set_option maxHeartbeats 400000

theorem length_sortS (L : List Shr) (h : well (dat L) = true) : (sortS L).length = L.length := by
  rw [← length_dat, dat_sortS, length_sortD _ h, length_dat]
theorem shs_take {w : World} {a : Option Addr} {L : List Shr} (h : Shs w a L) (n : Nat) : Shs w a (L.take n) := by
  have hg : ∀ i, i < (L.take n).length → i < L.length ∧ (L.take n).getD i zs = L.getD i zs := fun i hi => by
    rw [List.length_take] at hi
    exact ⟨by omega, by simp [List.getD, List.getElem?_take, show i < n by omega]⟩
  refine ⟨?_, fun i hi => by rw [(hg i hi).2]; exact h.svs i (hg i hi).1⟩
  rcases h.cells with h0 | ⟨g, o, ea, hc⟩
  · exact .inl (by rw [h0]; simp)
  · exact .inr ⟨g, o, ea, fun i hi => by rw [(hg i hi).2]; exact hc i (hg i hi).1⟩

theorem rcombine_bad (a : Option Addr) (l c : Nat) (p : Int) (h : p < 1 ∨ 255 < p) (w : World) :
    Calls Try.prog 19 #[.slice a l c, .int .i64 p] w fun e w' => e = .returned (.tuple #[.slice none 0 0, .int .i64 1]) ∧ w = w' := by
  by_cases h1 : p < 1
  · have h1' : decide (p < 1) = true := decide_eq_true h1
    clear h
    go_enter Try.func19, Try.ntmps19
    go_wp2
    go_ret2
    exact ⟨rfl, rfl⟩
  · have h1' : decide (p < 1) = false := decide_eq_false h1
    have h3 : 255 < p := by omega
    have h3' : decide (255 < p) = true := decide_eq_true h3
    clear h
    go_enter Try.func19, Try.ntmps19
    go_wp2
    go_ret2
    exact ⟨rfl, rfl⟩

def rcPost (D : Dat) (need : Nat) (w : World) (e : Ending) (w' : World) : Prop :=
  match combR D need with
  | some r => ∃ v, e = .returned (.tuple #[v, .int .i64 0]) ∧ BufB w.heap.size v r w w'
  | none => e = .returned (.tuple #[.slice none 0 0, .int .i64 40]) ∧ Below w.heap.size w w'
theorem rcPost_none {D : Dat} {need : Nat} {w w' : World} (h : combR D need = none) (hb : Below w.heap.size w w') : rcPost D need w (.returned (.tuple #[.slice none 0 0, .int .i64 40])) w' := by
  rw [rcPost, h]; exact ⟨rfl, hb⟩
theorem rcPost_some {D : Dat} {need : Nat} {w w' : World} {r : List (BitVec 8)} {v : Value} (h : combR D need = some r) (hb : BufB w.heap.size v r w w') : rcPost D need w (.returned (.tuple #[v, .int .i64 0])) w' := by
  rw [rcPost, h]; exact ⟨v, rfl, hb⟩

set_option maxRecDepth 20000 in
set_option maxHeartbeats 4000000 in
theorem rcombine_any (a : Option Addr) (L : List Shr) (n c need : Nat) (en : n = L.length) (h1 : 1 ≤ need) (h2 : need ≤ 255) (hL : n ≤ 1000000) (hbl : ∀ i, i < L.length → (L.getD i zs).b.length ≤ 1000000) (w : World) (hs : Shs w a L) :
    Calls Try.prog 19 #[.slice a n c, .int .i64 need] w fun e w' => rcPost (dat L) need w e w' := by
  obtain ⟨B, hB⟩ : ∃ B, B = w.heap.size := ⟨_, rfl⟩
  have hwell := well_any a L n c en hL w hs
  have h1i : ¬ ((need : Int) < 1) := by omega
  have h2i : ¬ ((255 : Int) < (need : Int)) := by omega
  have h1' : decide ((need : Int) < 1) = false := decide_eq_false h1i
  have h2' : decide ((255 : Int) < (need : Int)) = false := decide_eq_false h2i
  have N := Lib.hid en
  have HS := Lib.hid hs
  have HBB := Lib.hid hB
  have HBN := Lib.hid hbl
  have HW := Lib.hid hwell
  clear en hs hB hbl hwell
  cases hw : well (dat L) with
  | false =>
    have hres : combR (dat L) need = none := by rw [combR, hw]; simp
    have Hres := Lib.hid hres
    clear hres
    have HW' := HW.out
    rw [hw] at HW'
    have HW2 := Lib.hid HW'
    clear HW HW' hw
    go_enter Try.func19, Try.ntmps19
    go_wp2_with fail
    refine (HW2.out).mono ?_
    rintro e w1 ⟨rfl, hb1⟩
    go_wp2_with fail
    go_ret2
    exact rcPost_none Hres.out hb1
  | true =>
    have HW' := HW.out
    rw [hw] at HW'
    have HW2 := Lib.hid HW'
    have hlS := length_sortS L hw
    have hwt := Lib.hid hw
    clear HW HW'
    by_cases hnn : n < need
    · have hres : combR (dat L) need = none := by
        rw [combR, if_neg]
        rintro ⟨_, h⟩
        rw [length_sortD _ hw, length_dat] at h
        have := N.out
        omega
      have Hres := Lib.hid hres
      have hni : (n : Int) < (need : Int) := by omega
      have hni' : decide ((n : Int) < (need : Int)) = true := decide_eq_true hni
      clear hres hw
      go_enter Try.func19, Try.ntmps19
      go_wp2_with fail
      refine (HW2.out).mono ?_
      rintro e w1 ⟨rfl, hb1⟩
      go_wp2_with fail
      go_ret2
      exact rcPost_none Hres.out hb1
    · have hres : combR (dat L) need = combV (dat (sortS L)) need := by rw [combR, if_pos ⟨hw, by rw [length_sortD _ hw, length_dat]; have := N.out; omega⟩, dat_sortS]
      have hni : ¬ ((n : Int) < (need : Int)) := by omega
      have hni' : decide ((n : Int) < (need : Int)) = false := decide_eq_false hni
      -- the shares, sorted
      have hbnd : ∀ d, (atF (dat L) L.length).getD d 0 ≤ L.length := fun d => by have := (atF_bound (dat L) L.length d).2; omega
      have hlen : ∀ i, i < n → ((sortS L).getD i zs).b.length = (L.getD 0 zs).b.length := fun i hi => by
        obtain ⟨j, hj, he⟩ := sortU_mem L (atF (dat L) L.length) 256 hbnd _ (getD_mem (sortS L) i (by rw [hlS, ← N.out]; exact hi))
        rw [he]
        have := ((well_iff (dat L)).1 hw j (by rw [length_dat]; exact hj)).2.2
        rw [dB_dat, dB_dat] at this
        exact this
      obtain ⟨m, hm⟩ : ∃ m, m = (L.getD 0 zs).b.length := ⟨_, rfl⟩
      have hm2 : m ≤ 1000000 := by rw [hm]; exact HBN.out 0 (by have := N.out; omega)
      rw [← hm] at hlen
      have hls : (sortS L).length = n := by rw [hlS, N.out]
      have HSo : Hid (∀ W, Below B w W → Calls Try.prog 37 #[.slice a n c] W fun e w' => ∃ a' c', e = .returned (.slice a' n c') ∧ n ≤ c' ∧ Shs w' a' (sortS L) ∧ Below W.heap.size W w') := Lib.hid fun W hW => by
        have := sorted_any a L n c N.out hL hwt.out W (HS.out.below hW (by rw [HBB.out]; exact Nat.le_refl _))
        rw [hls] at this
        exact this
      have Hres := Lib.hid hres
      have HLen := Lib.hid hlen
      have HLS := Lib.hid hls
      have hnd : need ≤ n := by omega
      generalize sortS L = M at *
      clear hres hw hlen hls hlS hm hbnd hnn
      go_enter Try.func19, Try.ntmps19
      go_wp2_with fail
      refine (HW2.out).mono ?_
      rintro e w1 ⟨rfl, hb1⟩
      rw [← HBB.out] at hb1
      have Hb1 := Lib.hid hb1
      clear hb1
      go_wp2_with fail
      refine (HSo.out w1 Hb1.out).mono ?_
      rintro e w2 ⟨a', c', rfl, hc', hsh, hb2⟩
      obtain ⟨B2, hB2⟩ : ∃ B, B = w2.heap.size := ⟨_, rfl⟩
      have hb02 : Below B w w2 := Hb1.out.trans (hb2.mono (by rw [HBB.out]; exact Hb1.out.size))
      have hBB2 : B ≤ B2 := by rw [hB2, HBB.out]; exact hb02.size
      have htk : ∀ i, i < need → (M.take need).getD i zs = M.getD i zs := fun i hi => by simp [List.getD, List.getElem?_take, hi]
      have htl : need = (M.take need).length := by rw [List.length_take, HLS.out]; omega
      have HV : Hid (∀ x W, Below B2 w2 W → Calls Try.prog 38 #[.slice a' need c', .int .u8 (x : BitVec 8).toNat] W fun e w' => ∃ v, e = .returned v ∧ BufB W.heap.size v (interpL ((dat M).take need) x) W w') := Lib.hid fun x W hW => by
        have := values_any a' (M.take need) need c' m x htl (by omega) (by omega) hm2 (fun k hk => by rw [htk k hk]; exact HLen.out k (by omega)) W ((shs_take hsh need).below hW (by rw [hB2]; exact Nat.le_refl _))
        rw [dat_take] at this
        exact this
      have hIl : Hid (∀ x, (interpL ((dat M).take need) x).length = m) := Lib.hid fun x => by
        rw [interpL, List.length_map, List.length_range, ← dat_take, dB_dat, htk 0 (by omega)]
        exact HLen.out 0 (by omega)
      have HSh := Lib.hid hsh
      have HB02 := Lib.hid hb02
      have HB2 := Lib.hid hB2
      have HBB2 := Lib.hid hBB2
      have hnc : need ≤ c' := by omega
      have HSL := Lib.hid (fun W => run_slice_hi2 W a' n c' need hnc)
      have b0 : Below B2 w2 w2 := Below.refl _ _
      clear hsh hb2 hb02 hB2 hBB2 htk htl
      go_wp2_with (first | ((with_reducible show wpList _ _ _ (Oper.mk _ (Op.slice _ _ _ _ _) _ _ _ _ :: _) _ _); refine wpList_slice_run rfl 31 (.tmp 26) none (some (.tmp 27)) rfl rfl rfl rfl (HSL.out _) ?_))
      go_loopw [8] (fun iv wr => ∃ i : Nat, need ≤ i ∧ i ≤ n ∧ iv = .int .i64 i ∧ Below B2 w2 wr ∧ ∀ t, need + t < i → interpL ((dat M).take need) (dX (dat M) (need + t)) = dB (dat M) (need + t)) (fun iv _ => n - (intOf iv).toNat)
      case atStart => exact ⟨need, Nat.le_refl _, hnd, rfl, b0, fun t ht => by omega⟩
      case round =>
        clear b0
        obtain ⟨i, hi0, hi, rfl, hb, hall⟩ := hrel
        by_cases hin : i < n
        · have ii : (i : Int) < (n : Int) := by omega
          have hiM : i < M.length := by rw [HLS.out]; exact hin
          obtain ⟨g, o, ea, hc⟩ : ∃ g o, a' = some ⟨g, o, none⟩ ∧ ∀ i, i < M.length → w2.cell? ⟨g, o + i * 2, none⟩ = some (.int .u8 (M.getD i zs).x.toNat) ∧ w2.cell? ⟨g, o + i * 2 + 1, none⟩ = some (M.getD i zs).v := by
            rcases HSh.out.cells with h | h
            · rw [h] at hiM; simp at hiM
            · exact h
          subst ea
          obtain ⟨av, cv, ev, hcv, hbs⟩ := HSh.out.svs i hiM
          have hcc := hc i hiM
          rw [ev, HLen.out i hin] at hcc
          have hgB : g < B2 := by rw [HB2.out]; exact block_lt_of_cell (a := ⟨g, o + i * 2, none⟩) hcc.1
          have q1 := (hb.cell (p := ⟨g, o + i * 2, none⟩) hgB).trans hcc.1
          have q2 := (hb.cell (p := ⟨g, o + i * 2 + 1, none⟩) hgB).trans hcc.2
          have hbs2 : Bs wr av (M.getD i zs).b := hbs.below hb (by rw [HB2.out]; exact Nat.le_refl _)
          have hlb := HLen.out i hin
          have hdx : Hid (dX (dat M) i = (M.getD i zs).x) := Lib.hid (dX_dat _ _)
          have hdb : Hid (dB (dat M) i = (M.getD i zs).b) := Lib.hid (dB_dat _ _)
          have X1 := Lib.hid (fun W (hW : Below B2 w2 W) => HV.out (M.getD i zs).x W hW)
          have hl1 := hIl.out (M.getD i zs).x
          have EIQ : Hid (∀ y, y = interpL ((dat M).take need) (dX (dat M) i) → (∀ t, need + t < i + 1 → y = dB (dat M) i → interpL ((dat M).take need) (dX (dat M) (need + t)) = dB (dat M) (need + t))) := Lib.hid fun y hy t ht he => by
            by_cases e : need + t = i
            · rw [e, ← hy, he]
            · exact hall t (by omega)
          have ENone : Hid (interpL ((dat M).take need) (dX (dat M) i) ≠ dB (dat M) i → combR (dat L) need = none) := Lib.hid fun h => by
            rw [Hres.out]
            exact combV_none _ _ (i - need) (by rw [length_dat, HLS.out]; omega) (by rw [show need + (i - need) = i by omega]; exact h)
          rw [hdx.out, hdb.out] at ENone EIQ
          generalize (M.getD i zs).x = x at *
          generalize (M.getD i zs).b = b at *
          generalize interpL ((dat M).take need) x = y at *
          have Hb := Lib.hid hb
          have HY := Lib.hid hl1
          have HGW : Hid (g < wr.heap.size) := Lib.hid (Nat.lt_of_lt_of_le hgB (by rw [HB2.out]; exact hb.size))
          have HLB := Lib.hid hlb
          have HBS := Lib.hid hbs2
          have HIN := Lib.hid hin
          have HI0 := Lib.hid hi0
          clear hb hall hl1 hlb hbs hbs2 hcc hcv ev hiM hin hi0 hdx hdb
          have HSame : Hid (∀ pv pc W, Below wr.heap.size wr W → Bs W pv y → Calls Try.prog 23 #[.slice pv m pc, .slice av m cv] W fun e w' => e = .returned (.bool (decide (y = b))) ∧ ∃ n, w' = W.drewN n) := Lib.hid fun pv pc W hW hpy => by
            have := same_any pv av y b pc cv W (by rw [HY.out]; exact hm2) (by rw [HLB.out]; exact hm2) hpy (HBS.out.below hW (Nat.le_refl _))
            rw [HY.out, HLB.out] at this
            exact this
          by_cases hyb : y = b
          · have hyd : decide (y = b) = true := decide_eq_true hyb
            rw [hyd] at HSame
            have HYB := Lib.hid hyb
            clear hyb hyd
            go_wp2_with fail
            go_region_law (first | (go_simp; go_at_call 23; refine (HSame.out pv pc w1' HBw.out hbs1).mono ?_; rintro e w3 ⟨rfl, qa, rfl⟩) | (go_simp; go_at_call 38; refine (X1.out wr.drew (below_drewN Hb.out 1)).mono ?_; rintro e w1' ⟨vp, rfl, hbp⟩; have HBw := Lib.hid ((below_drewN (Below.refl wr.heap.size wr) 1).trans hbp.2.1); obtain ⟨pv, pc, ev, _, hbs1⟩ := (hbp.svx (r := none) (fun k hk => by cases hk)).sv; rw [HY.out] at ev; subst ev; clear hbp; have q3 := (HBw.out.cell (p := ⟨g, o + i * 2 + 1, none⟩) HGW.out).trans q2))
            all_goals
              go_wp2_with fail
              go_roundw
              case rel => exact ⟨i + 1, Nat.le_succ_of_le HI0.out, HIN.out, by go_num, below_drewN (Hb.out.trans (HBw.out.mono (by rw [HB2.out]; exact Hb.out.size))) qa, fun t ht => EIQ.out y rfl t ht HYB.out⟩
              case measure => have := HIN.out; simp [intOf] <;> omega
          · have hyd : decide (y = b) = false := decide_eq_false hyb
            rw [hyd] at HSame
            have hNN := Lib.hid (ENone.out hyb)
            clear hyb hyd
            go_wp2_with fail
            go_region_law (first | (go_simp; go_at_call 23; refine (HSame.out pv pc w1' HBw.out hbs1).mono ?_; rintro e w3 ⟨rfl, qa, rfl⟩) | (go_simp; go_at_call 38; refine (X1.out wr.drew (below_drewN Hb.out 1)).mono ?_; rintro e w1' ⟨vp, rfl, hbp⟩; have HBw := Lib.hid ((below_drewN (Below.refl wr.heap.size wr) 1).trans hbp.2.1); obtain ⟨pv, pc, ev, _, hbs1⟩ := (hbp.svx (r := none) (fun k hk => by cases hk)).sv; rw [HY.out] at ev; subst ev; clear hbp; have q3 := (HBw.out.cell (p := ⟨g, o + i * 2 + 1, none⟩) HGW.out).trans q2))
            all_goals
              go_wp2_with fail
              go_ret2
              exact rcPost_none hNN.out (by rw [← HBB.out]; exact HB02.out.trans ((below_drewN (Hb.out.trans (HBw.out.mono (by rw [HB2.out]; exact Hb.out.size))) qa).mono HBB2.out))
        · have ei : i = n := by omega
          have ii : ¬ (i : Int) < (n : Int) := by omega
          have hfin : combR (dat L) need = some (interpL ((dat M).take need) 0#8) := by
            rw [Hres.out]
            exact combV_some _ _ fun t ht => hall t (by rw [length_dat, HLS.out] at ht; omega)
          have HFin := Lib.hid hfin
          have hv0 := HV.out 0#8 wr hb
          rw [show (((0#8 : BitVec 8).toNat : Nat) : Int) = 0 from rfl] at hv0
          have HV0 := Lib.hid hv0
          have Hb := Lib.hid hb
          clear hfin hv0 hb hall ei hin hi hi0
          go_wp2_with fail
          refine (HV0.out).mono ?_
          rintro e w3 ⟨v, rfl, hbv⟩
          have HBV := Lib.hid hbv
          clear hbv
          go_wp2_with fail
          go_ret2
          exact rcPost_some HFin.out (HBV.out.mono (by rw [← HBB.out]; exact Nat.le_trans HBB2.out (by rw [HB2.out]; exact Hb.out.size)) (by rw [← HBB.out]; exact HB02.out.trans (Hb.out.mono HBB2.out)))
end Go.Proofs.Ytpghdiklleedaaa
