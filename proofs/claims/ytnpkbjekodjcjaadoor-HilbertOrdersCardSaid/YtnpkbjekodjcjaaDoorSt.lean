/- The contract of the merge where one side is one number. The contract of the merge where the right side is one number. -/
import Derived.Test.YtnpkbjekodjcjaaDoorSr
set_option linter.all false
namespace Go.Proofs.YtnpkbjekodjcjaaDoor
open Go.RowKit Go.Fen Hil
set_option linter.unusedVariables false
set_option maxHeartbeats 4000000

theorem keys_grown {w wr : World} {bk gk m cm gd : Nat} {K : List Nat} (hK : KeysM w bk gk m cm K) (hbk : bk ≠ gd) (hgk : gk ≠ gd) (h : w.grownBy wr (some gd)) : KeysM wr bk gk m cm K := by
  have l1 := block_lt_of_cell (a := ⟨bk, 0, none⟩) hK.1
  refine ⟨?_, hK.2.1, fun i hi => ?_⟩
  · rw [← hK.1]; simp only [World.cell?]; rw [h.block bk l1 (by simpa using hbk)]
  · have l2 := block_lt_of_cell (a := ⟨gk, i, none⟩) (hK.2.2 i hi)
    rw [← hK.2.2 i hi]; simp only [World.cell?]; rw [h.block gk l2 (by simpa using hgk)]

set_option maxRecDepth 20000 in
theorem sym_left (gd t n c a m b bk gk mm cm : Nat) (D K : List Nat) (w : World) (hR : Row w gd t (nc D)) (hK : KeysM w bk gk mm cm K) (hn : n = D.length) (hN : n ≤ 1000000) (hm : mm ≤ 1000000) (hbk : bk ≠ gd) (hgk : gk ≠ gd)
    (hD : ∀ i, i < D.length → at' D i < mm) (S2 : Srt K D m b) (A : Apart D a m b) (ham : m = a + 1) (hmb : m < b) (hb : b ≤ n) :
    Calls Tryd.prog 52 #[.slice (some ⟨gd, 0, none⟩) n c, .int .i64 a, .int .i64 m, .int .i64 b, .func (.func 34) #[] #[.pointer (some ⟨bk, 0, none⟩)]] w fun e w' =>
      e = .returned (.tuple #[]) ∧ ∃ E, Row w' gd t (nc E) ∧ Mix a b D E ∧ Srt K E a b ∧ w.grownBy w' (some gd) := by
  have a6 : a ≤ 1000000 := by omega
  have b6 : b ≤ 1000000 := by omega
  have m6 : m ≤ 1000000 := by omega
  have em : (m : Int) - (a : Int) = 1 := by omega
  have an : (a : Int) < (n : Int) := by omega
  have HR := Lib.hid hR
  have HN := Lib.hid hn
  have HS2 := Lib.hid S2
  have HA := Lib.hid A
  have HAM := Lib.hid ham
  have HMB := Lib.hid hmb
  have HB := Lib.hid hb
  have HD := Lib.hid hD
  have CM := Lib.hid (fun (x y : Nat) (wr : World) (hx : x < mm) (hy : y < mm) (hg : w.grownBy wr (some gd)) => cmp_any bk gk mm cm K x y wr (keys_grown hK hbk hgk hg) hx hy hm)
  obtain ⟨y, hy⟩ : ∃ y, y = at' D a := ⟨_, rfl⟩
  have hym : y < mm := by rw [hy]; exact hD a (by omega)
  have CY := Lib.hid (by have := hR.cell a; rw [get_nc D a (by omega), ← hy] at this; exact this : w.cell? ⟨gd, a, none⟩ = some (.int .i64 (y : Int)))
  have HY := Lib.hid hy
  have HYM := Lib.hid hym
  clear hR hn S2 A ham hmb hb hD hK hy hym
  go_enter Tryd.func52, Tryd.ntmps52
  go_wp2_with fail
  go_loopw [10, 11, 12] (fun iv jv _ wr => ∃ (i j q : Nat), m ≤ i ∧ i ≤ j ∧ j ≤ b ∧ (∀ t, m ≤ t → t < i → lt K (at' D t) y) ∧ (∀ t, j ≤ t → t < b → lt K y (at' D t)) ∧ iv = .int .i64 i ∧ jv = .int .i64 j ∧ wr = w.drewN q) (fun iv jv _ _ => (intOf jv).toNat - (intOf iv).toNat)
  case atStart => exact ⟨m, b, 0, Nat.le_refl _, Nat.le_of_lt HMB.out, Nat.le_refl _, fun t h1 h2 => by omega, fun t h1 h2 => by omega, rfl, rfl, rfl⟩
  case round =>
    obtain ⟨i, j, q, hmi, hij, hjb, H1, H2, rfl, rfl, hw⟩ := hrel
    have gw : w.grownBy wr (some gd) := by rw [hw]; exact grown_drewN (grown_refl _ _) _
    have rw' : Row wr gd t (nc D) := by rw [hw]; exact HR.out.drewN q
    have cy : wr.cell? ⟨gd, a, none⟩ = some (.int .i64 (y : Int)) := by rw [hw]; exact CY.out
    have HW := Lib.hid hw
    have GW := Lib.hid gw
    clear hw gw
    have i6 : i ≤ 1000000 := by omega
    have j6 : j ≤ 1000000 := by omega
    by_cases hlt : i < j
    · have ii : (i : Int) < (j : Int) := by omega
      obtain ⟨s, hs⟩ : ∃ s, s = i + j := ⟨_, rfl⟩
      obtain ⟨h, hh⟩ : ∃ h, h = s / 2 := ⟨_, rfl⟩
      have es : (i : Int) + (j : Int) = (s : Int) := by omega
      have eh : (s : Int) / 2 = (h : Int) := by omega
      have s6 : s ≤ 2000000 := by omega
      have h6 : h ≤ 1000000 := by omega
      have ih : i ≤ h := by omega
      have hj : h < j := by omega
      have hn : (h : Int) < (n : Int) := by have := HB.out; omega
      obtain ⟨x, hx⟩ : ∃ x, x = at' D h := ⟨_, rfl⟩
      have hnd : h < D.length := by have := HB.out; have := HN.out; omega
      have c1 := (rw'.cell h).trans (get_nc D h hnd)
      rw [← hx] at c1
      have CX1 := fun q' => CM.out x y (wr.drewN q') (by rw [hx]; exact HD.out h hnd) HYM.out (grown_drewN GW.out q')
      have HRW := Lib.hid rw'
      clear rw'
      have HAP := HA.out a h (by have := HAM.out; omega) (by have := HAM.out; omega) (by omega) (by omega)
      rw [← HY.out, ← hx] at HAP
      by_cases hk : K.getD x 0 < K.getD y 0
      · have CXk := CX1
        rw [show cmpU (K.getD x 0) (K.getD y 0) = -1 by rw [cmpU, if_pos hk]] at CXk
        have CX := Lib.hid CXk
        have N1 := Lib.hid (show ∀ t, m ≤ t → t < h + 1 → lt K (at' D t) y from fun t t1 t2 => by
          have hxy : lt K x y := (lt_or' HAP).2 hk
          by_cases e : t = h
          · rw [e, ← hx]; exact hxy
          · exact lt_trans (HS2.out t h t1 (by omega) (by omega)) (by rw [← hx]; exact hxy))
        have HH := Lib.hid (And.intro hmi (And.intro ih (And.intro hj hjb)))
        have HH2 := Lib.hid H2
        clear H1 H2 hx hs hh CX1 CXk HAP hk hmi hij hjb hlt ih hj hnd
        go_wp2_with fail
        go_quiet (first | (exact Calls.quiet_of (CX.out _)))
        go_wp2_with fail
        go_roundw
        case rel => obtain ⟨x1, x2, x3, x4⟩ := HH.out; exact ⟨h + 1, j, q + nq, by omega, by omega, x4, N1.out, HH2.out, by go_num, rfl, by rw [HW.out, World.drewN_drewN]⟩
        case measure => have := HH.out; simp [intOf] <;> omega
      · obtain ⟨cv, hcv⟩ : ∃ cv, cv = cmpU (K.getD x 0) (K.getD y 0) := ⟨_, rfl⟩
        rw [← hcv] at CX1
        have cv0 : ¬ cv < 0 := by rw [hcv, cmpU, if_neg hk]; split <;> omega
        have CX := Lib.hid CX1
        have N2 := Lib.hid (show ∀ t, h ≤ t → t < b → lt K y (at' D t) from fun t t1 t2 => by
          have hxy : lt K y x := (lt_or HAP).2 hk
          by_cases e : t = h
          · rw [e, ← hx]; exact hxy
          · exact lt_trans hxy (by rw [hx]; exact HS2.out h t (by omega) (by omega) t2))
        have HH := Lib.hid (And.intro hmi (And.intro ih (And.intro hj hjb)))
        have HH1 := Lib.hid H1
        clear H1 H2 hx hs hh CX1 HAP hk hmi hij hjb hlt ih hj hnd hcv
        go_wp2_with fail
        go_quiet (first | (exact Calls.quiet_of (CX.out _)))
        go_wp2_with fail
        go_roundw
        case rel => obtain ⟨x1, x2, x3, x4⟩ := HH.out; exact ⟨i, h, q + nq, x1, x2, by omega, HH1.out, N2.out, rfl, rfl, by rw [HW.out, World.drewN_drewN]⟩
        case measure => have := HH.out; simp [intOf] <;> omega
    · obtain rfl : i = j := by omega
      have ii : ¬ (i : Int) < (i : Int) := by omega
      obtain ⟨i1, hi1⟩ : ∃ p, p = i - 1 := ⟨_, rfl⟩
      have ei1 : (i : Int) - 1 = (i1 : Int) := by omega
      have i16 : i1 ≤ 1000000 := by omega
      have HX := Lib.hid (And.intro hmi (And.intro hjb hi1))
      have HRW := Lib.hid rw'
      have HH1 := Lib.hid H1
      have HH2 := Lib.hid H2
      clear H1 H2 hmi hij hjb hlt rw' cy hi1
      go_wp2_with fail
      go_loopw [13] (fun kv wx => ∃ (k : Nat) (E : List Nat), a ≤ k ∧ k ≤ i1 ∧ kv = .int .i64 k ∧ Row wx gd t (nc E) ∧ Rot D E a (a + 1) (k + 1) ∧ w.grownBy wx (some gd)) (fun kv _ => i1 - (intOf kv).toNat)
      case atStart =>
        obtain ⟨x1, x2, x3⟩ := HX.out
        exact ⟨a, D, Nat.le_refl _, by have := HAM.out; omega, rfl, HRW.out, Rot.none_right D a (a + 1) (by omega), GW.out⟩
      case round =>
        obtain ⟨k, E, hak, hki, rfl, hRE, hRot, hg⟩ := hrel
        have k6 : k ≤ 1000000 := by omega
        have lE : E.length = n := hRot.1.trans HN.out.symm
        obtain ⟨x1, x2, x3⟩ := HX.out
        have hbn := HB.out
        have ham := HAM.out
        by_cases hlt2 : k < i1
        · have ki : (k : Int) < (i1 : Int) := by omega
          obtain ⟨p, hp⟩ : ∃ p, p = k + 1 := ⟨_, rfl⟩
          have ep : (k : Int) + 1 = (p : Int) := by omega
          have p6 : p ≤ 1000000 := by omega
          have kn : (k : Int) < (n : Int) := by omega
          have pn : (p : Int) < (n : Int) := by omega
          have c1 := (hRE.cell k).trans (get_nc E k (by omega))
          have c2 := (hRE.cell p).trans (get_nc E p (by omega))
          obtain ⟨u, hu⟩ : ∃ u, u = at' E k := ⟨_, rfl⟩
          obtain ⟨v, hv⟩ : ∃ v, v = at' E p := ⟨_, rfl⟩
          rw [← hu] at c1
          rw [← hv] at c2
          have f1 := hRE.frozen k
          have f2 := hRE.frozen p
          have SS := Lib.hid (rot_up (i := 0) hRot hak (by rw [← HN.out]; omega))
          have EW : Hid (swp E k (k + 1) = (E.set k v).set p u) := Lib.hid (by rw [swp, ← hp, ← hu, ← hv])
          have HRE := Lib.hid hRE
          have HG := Lib.hid hg
          have HP := Lib.hid (And.intro hp (And.intro hlt2 hak))
          clear hRE hRot hg hu hv hp lE hak hki x1 x2 x3 hbn ham hlt2
          go_wp2_with fail
          go_region
          go_wp2_with fail
          go_roundw
          case rel =>
            have x4 := HP.out
            refine ⟨p, (E.set k v).set p u, by omega, by omega, by first | rfl | go_num, ?_, ?_, ?_⟩
            · have := ((HRE.out.drew.set k (.int .i64 v)).set p (.int .i64 u))
              rw [set_nc, set_nc] at this
              exact this
            · rw [← EW.out, x4.1]; exact SS.out
            · exact grown_set (grown_set (grown_drew HG.out) _ _) _ _
          case measure => have := HP.out; simp [intOf] <;> omega
        · obtain rfl : k = i1 := by omega
          have ki : ¬ (k : Int) < (k : Int) := by omega
          have hpl := put_left (K := K) (i := i) (b := b) (by rw [show k + 1 = i by omega] at hRot; exact hRot) (by rw [← ham]; exact HS2.out) (by omega) x2 (fun t t1 t2 => by rw [← HY.out]; exact HH1.out t (by omega) t2) (fun t t1 t2 => by rw [← HY.out]; exact HH2.out t t1 t2)
          have HF := Lib.hid (And.intro hRE (And.intro hpl.1 (And.intro hpl.2 hg)))
          clear hRE hRot hg lE hak hki x1 x2 x3 hbn ham hlt2 hpl
          go_wp2_with fail
          first | go_end0 | (try simp only [Exit.inBlock, Exit.then]); refine bodyPost_ret (results_none rfl _ _ _) rfl ?_
          exact ⟨rfl, E, HF.out⟩
end Go.Proofs.YtnpkbjekodjcjaaDoor

set_option linter.all false
namespace Go.Proofs.YtnpkbjekodjcjaaDoor
open Go.RowKit Go.Fen Hil
set_option linter.unusedVariables false
set_option maxHeartbeats 4000000

set_option maxRecDepth 20000 in
theorem sym_right (gd t n c a m b bk gk mm cm : Nat) (D K : List Nat) (w : World) (hR : Row w gd t (nc D)) (hK : KeysM w bk gk mm cm K) (hn : n = D.length) (hN : n ≤ 1000000) (hm : mm ≤ 1000000) (hbk : bk ≠ gd) (hgk : gk ≠ gd)
    (hD : ∀ i, i < D.length → at' D i < mm) (S1 : Srt K D a m) (A : Apart D a m b) (ham : a + 1 < m) (hmb : b = m + 1) (hb : b ≤ n) :
    Calls Tryd.prog 52 #[.slice (some ⟨gd, 0, none⟩) n c, .int .i64 a, .int .i64 m, .int .i64 b, .func (.func 34) #[] #[.pointer (some ⟨bk, 0, none⟩)]] w fun e w' =>
      e = .returned (.tuple #[]) ∧ ∃ E, Row w' gd t (nc E) ∧ Mix a b D E ∧ Srt K E a b ∧ w.grownBy w' (some gd) := by
  have a6 : a ≤ 1000000 := by omega
  have b6 : b ≤ 1000000 := by omega
  have m6 : m ≤ 1000000 := by omega
  obtain ⟨ma, hma⟩ : ∃ p, p = m - a := ⟨_, rfl⟩
  have em0 : (m : Int) - (a : Int) = (ma : Int) := by omega
  have em1 : ((ma : Int) == 1) = false := beq_eq_false_iff_ne.2 (by omega)
  have em : (b : Int) - (m : Int) = 1 := by omega
  have mn : (m : Int) < (n : Int) := by omega
  have HR := Lib.hid hR
  have HN := Lib.hid hn
  have HS1 := Lib.hid S1
  have HA := Lib.hid A
  have HAM := Lib.hid ham
  have HMB := Lib.hid hmb
  have HB := Lib.hid hb
  have HD := Lib.hid hD
  have CM := Lib.hid (fun (x y : Nat) (wr : World) (hx : x < mm) (hy : y < mm) (hg : w.grownBy wr (some gd)) => cmp_any bk gk mm cm K x y wr (keys_grown hK hbk hgk hg) hx hy hm)
  obtain ⟨y, hy⟩ : ∃ y, y = at' D m := ⟨_, rfl⟩
  have hym : y < mm := by rw [hy]; exact hD m (by omega)
  have CY := Lib.hid (by have := hR.cell m; rw [get_nc D m (by omega), ← hy] at this; exact this : w.cell? ⟨gd, m, none⟩ = some (.int .i64 (y : Int)))
  have HY := Lib.hid hy
  have HYM := Lib.hid hym
  clear hR hn S1 A ham hmb hb hD hK hy hym hma
  go_enter Tryd.func52, Tryd.ntmps52
  go_wp2_with fail
  go_loopw [14, 15, 16] (fun iv jv _ wr => ∃ (i j q : Nat), a ≤ i ∧ i ≤ j ∧ j ≤ m ∧ (∀ t, a ≤ t → t < i → lt K (at' D t) y) ∧ (∀ t, j ≤ t → t < m → lt K y (at' D t)) ∧ iv = .int .i64 i ∧ jv = .int .i64 j ∧ wr = w.drewN q) (fun iv jv _ _ => (intOf jv).toNat - (intOf iv).toNat)
  case atStart => exact ⟨a, m, 0, Nat.le_refl _, by have := HAM.out; omega, Nat.le_refl _, fun t h1 h2 => by omega, fun t h1 h2 => by omega, rfl, rfl, rfl⟩
  case round =>
    obtain ⟨i, j, q, hmi, hij, hjb, H1, H2, rfl, rfl, hw⟩ := hrel
    have gw : w.grownBy wr (some gd) := by rw [hw]; exact grown_drewN (grown_refl _ _) _
    have rw' : Row wr gd t (nc D) := by rw [hw]; exact HR.out.drewN q
    have cy : wr.cell? ⟨gd, m, none⟩ = some (.int .i64 (y : Int)) := by rw [hw]; exact CY.out
    have HW := Lib.hid hw
    have GW := Lib.hid gw
    clear hw gw
    have i6 : i ≤ 1000000 := by omega
    have j6 : j ≤ 1000000 := by omega
    by_cases hlt : i < j
    · have ii : (i : Int) < (j : Int) := by omega
      obtain ⟨s, hs⟩ : ∃ s, s = i + j := ⟨_, rfl⟩
      obtain ⟨h, hh⟩ : ∃ h, h = s / 2 := ⟨_, rfl⟩
      have es : (i : Int) + (j : Int) = (s : Int) := by omega
      have eh : (s : Int) / 2 = (h : Int) := by omega
      have s6 : s ≤ 2000000 := by omega
      have h6 : h ≤ 1000000 := by omega
      have ih : i ≤ h := by omega
      have hj : h < j := by omega
      have hn : (h : Int) < (n : Int) := by have := HB.out; have := HMB.out; omega
      obtain ⟨x, hx⟩ : ∃ x, x = at' D h := ⟨_, rfl⟩
      have hnd : h < D.length := by have := HB.out; have := HN.out; have := HMB.out; omega
      have c1 := (rw'.cell h).trans (get_nc D h hnd)
      rw [← hx] at c1
      have CX1 := fun q' => CM.out y x (wr.drewN q') HYM.out (by rw [hx]; exact HD.out h hnd) (grown_drewN GW.out q')
      have HRW := Lib.hid rw'
      clear rw'
      have HAP := HA.out h m (by omega) (by omega) (by omega) (by have := HMB.out; omega)
      rw [← HY.out, ← hx] at HAP
      by_cases hk : K.getD y 0 < K.getD x 0
      · have CXk := CX1
        rw [show cmpU (K.getD y 0) (K.getD x 0) = -1 by rw [cmpU, if_pos hk]] at CXk
        have CX := Lib.hid CXk
        have N2 := Lib.hid (show ∀ t, h ≤ t → t < m → lt K y (at' D t) from fun t t1 t2 => by
          have hxy : lt K y x := (lt_or' HAP).2 hk
          by_cases e : t = h
          · rw [e, ← hx]; exact hxy
          · exact lt_trans hxy (by rw [hx]; exact HS1.out h t (by omega) (by omega) t2))
        have HH := Lib.hid (And.intro hmi (And.intro ih (And.intro hj hjb)))
        have HH1 := Lib.hid H1
        clear H1 H2 hx hs hh CX1 CXk HAP hk hmi hij hjb hlt ih hj hnd
        go_wp2_with fail
        go_quiet (first | (exact Calls.quiet_of (CX.out _)))
        go_wp2_with fail
        go_roundw
        case rel => obtain ⟨x1, x2, x3, x4⟩ := HH.out; exact ⟨i, h, q + nq, x1, x2, by omega, HH1.out, N2.out, rfl, rfl, by rw [HW.out, World.drewN_drewN]⟩
        case measure => have := HH.out; simp [intOf] <;> omega
      · obtain ⟨cv, hcv⟩ : ∃ cv, cv = cmpU (K.getD y 0) (K.getD x 0) := ⟨_, rfl⟩
        rw [← hcv] at CX1
        have cv0 : ¬ cv < 0 := by rw [hcv, cmpU, if_neg hk]; split <;> omega
        have cvd : decide (cv < 0) = false := decide_eq_false cv0
        have CX := Lib.hid CX1
        have N1 := Lib.hid (show ∀ t, a ≤ t → t < h + 1 → lt K (at' D t) y from fun t t1 t2 => by
          have hxy : lt K x y := (lt_or HAP).2 hk
          by_cases e : t = h
          · rw [e, ← hx]; exact hxy
          · exact lt_trans (HS1.out t h t1 (by omega) (by omega)) (by rw [← hx]; exact hxy))
        have HH := Lib.hid (And.intro hmi (And.intro ih (And.intro hj hjb)))
        have HH2 := Lib.hid H2
        clear H1 H2 hx hs hh CX1 HAP hk hmi hij hjb hlt ih hj hnd hcv
        go_wp2_with fail
        go_quiet (first | (exact Calls.quiet_of (CX.out _)))
        go_wp2_with fail
        go_roundw
        case rel => obtain ⟨x1, x2, x3, x4⟩ := HH.out; exact ⟨h + 1, j, q + nq, by omega, by omega, x4, N1.out, HH2.out, by go_num, rfl, by rw [HW.out, World.drewN_drewN]⟩
        case measure => have := HH.out; simp [intOf] <;> omega
    · obtain rfl : i = j := by omega
      have ii : ¬ (i : Int) < (i : Int) := by omega
      have HX := Lib.hid (And.intro hmi hjb)
      have HRW := Lib.hid rw'
      have HH1 := Lib.hid H1
      have HH2 := Lib.hid H2
      clear H1 H2 hmi hij hjb hlt rw' cy
      go_wp2_with fail
      go_loopw [17] (fun kv wx => ∃ (k : Nat) (E : List Nat), i ≤ k ∧ k ≤ m ∧ kv = .int .i64 k ∧ Row wx gd t (nc E) ∧ Rot D E k m (m + 1) ∧ w.grownBy wx (some gd)) (fun kv _ => (intOf kv).toNat)
      case atStart =>
        obtain ⟨x1, x2⟩ := HX.out
        exact ⟨m, D, x2, Nat.le_refl _, rfl, HRW.out, Rot.none_left D m (m + 1) (by omega), GW.out⟩
      case round =>
        obtain ⟨k, E, hik, hkm, rfl, hRE, hRot, hg⟩ := hrel
        have k6 : k ≤ 1000000 := by omega
        have lE : E.length = n := hRot.1.trans HN.out.symm
        obtain ⟨x1, x2⟩ := HX.out
        have hbn := HB.out
        have hbm := HMB.out
        by_cases hlt2 : i < k
        · have ki : (i : Int) < (k : Int) := by omega
          have ki2 : decide (i < k) = true := decide_eq_true hlt2
          obtain ⟨p, hp⟩ : ∃ p, p = k - 1 := ⟨_, rfl⟩
          have ep : (k : Int) - 1 = (p : Int) := by omega
          have p6 : p ≤ 1000000 := by omega
          have kn : (k : Int) < (n : Int) := by omega
          have pn : (p : Int) < (n : Int) := by omega
          have c1 := (hRE.cell k).trans (get_nc E k (by omega))
          have c2 := (hRE.cell p).trans (get_nc E p (by omega))
          obtain ⟨u, hu⟩ : ∃ u, u = at' E k := ⟨_, rfl⟩
          obtain ⟨v, hv⟩ : ∃ v, v = at' E p := ⟨_, rfl⟩
          rw [← hu] at c1
          rw [← hv] at c2
          have f1 := hRE.frozen k
          have f2 := hRE.frozen p
          have SS := Lib.hid (rot_down hRot (by omega) hkm (by rw [← HN.out]; omega))
          have EW : Hid (swp E k (k - 1) = (E.set k v).set p u) := Lib.hid (by rw [swp, ← hp, ← hu, ← hv])
          have HRE := Lib.hid hRE
          have HG := Lib.hid hg
          have HP := Lib.hid (And.intro hp (And.intro hlt2 (And.intro hik hkm)))
          clear hRE hRot hg hu hv hp lE hik hkm x1 x2 hbn hbm hlt2
          go_wp2_with fail
          go_region
          go_wp2_with fail
          go_roundw
          case rel =>
            have x4 := HP.out
            refine ⟨p, (E.set k v).set p u, by omega, by omega, by first | rfl | go_num, ?_, ?_, ?_⟩
            · have := ((HRE.out.drew.set k (.int .i64 v)).set p (.int .i64 u))
              rw [set_nc, set_nc] at this
              exact this
            · rw [← EW.out, x4.1]; exact SS.out
            · exact grown_set (grown_set (grown_drew HG.out) _ _) _ _
          case measure => have := HP.out; simp [intOf] <;> omega
        · obtain rfl : k = i := by omega
          have ki : ¬ (k : Int) < (k : Int) := by omega
          have hpl := put_right (K := K) hRot HS1.out (by omega) x2 (fun t t1 t2 => by rw [← HY.out]; exact HH1.out t t1 t2) (fun t t1 t2 => by rw [← HY.out]; exact HH2.out t t1 t2)
          rw [← hbm] at hpl
          have HF := Lib.hid (And.intro hRE (And.intro hpl.1 (And.intro hpl.2 hg)))
          clear hRE hRot hg lE hik hkm x1 x2 hbn hbm hlt2 hpl
          go_wp2_with fail
          first | go_end0 | (try simp only [Exit.inBlock, Exit.then]); refine bodyPost_ret (results_none rfl _ _ _) rfl ?_
          exact ⟨rfl, E, HF.out⟩
end Go.Proofs.YtnpkbjekodjcjaaDoor
