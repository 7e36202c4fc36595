/- The contract of the merge in place. -/
import Derived.Test.YtnpkbjekodjcjaaDoorSt
import Derived.Deep.Cut
import Derived.Deep.CutRange
set_option linter.all false
namespace Go.Proofs.YtnpkbjekodjcjaaDoor
open Go.RowKit Go.Fen Hil
set_option linter.unusedVariables false
set_option maxHeartbeats 4000000

def MergeOk (gd t n c a m b bk gk mm cm : Nat) (K : List Nat) : Prop := ∀ (D : List Nat) (w : World), Row w gd t (nc D) → KeysM w bk gk mm cm K → n = D.length → (∀ i, i < D.length → at' D i < mm) → Srt K D a m → Srt K D m b → Apart D a m b →
    Calls Tryd.prog 52 #[.slice (some ⟨gd, 0, none⟩) n c, .int .i64 a, .int .i64 m, .int .i64 b, .func (.func 34) #[] #[.pointer (some ⟨bk, 0, none⟩)]] w fun e w' =>
      e = .returned (.tuple #[]) ∧ ∃ E, Row w' gd t (nc E) ∧ Mix a b D E ∧ Srt K E a b ∧ w.grownBy w' (some gd)

theorem mix_none {a b : Nat} (D : List Nat) : Mix a b D D := Mix.refl _ _ _

set_option maxRecDepth 20000 in
theorem sym_gen (gd t n c a m b bk gk mm cm : Nat) (K : List Nat) (hN : n ≤ 1000000) (hm : mm ≤ 1000000) (hbk : bk ≠ gd) (hgk : gk ≠ gd) (ham : a + 1 < m) (hmb : m + 1 < b) (hb : b ≤ n)
    (IH : ∀ a' m' b', b' - a' < b - a → a' < m' → m' < b' → b' ≤ n → MergeOk gd t n c a' m' b' bk gk mm cm K) : MergeOk gd t n c a m b bk gk mm cm K := by
  intro D w hR hK hn hD S1 S2 A
  have a6 : a ≤ 1000000 := by omega
  have b6 : b ≤ 1000000 := by omega
  have m6 : m ≤ 1000000 := by omega
  obtain ⟨ma, hma⟩ : ∃ p, p = m - a := ⟨_, rfl⟩
  have em0 : (m : Int) - (a : Int) = (ma : Int) := by omega
  have em1 : ((ma : Int) == 1) = false := beq_eq_false_iff_ne.2 (by omega)
  obtain ⟨bm, hbm⟩ : ∃ p, p = b - m := ⟨_, rfl⟩
  have em2 : (b : Int) - (m : Int) = (bm : Int) := by omega
  have em3 : ((bm : Int) == 1) = false := beq_eq_false_iff_ne.2 (by omega)
  obtain ⟨ab, hab⟩ : ∃ p, p = a + b := ⟨_, rfl⟩
  obtain ⟨mid, hmid⟩ : ∃ p, p = ab / 2 := ⟨_, rfl⟩
  have eab : (a : Int) + (b : Int) = (ab : Int) := by omega
  have emid : (ab : Int) / 2 = (mid : Int) := by omega
  have ab6 : ab ≤ 2000000 := by omega
  have mid6 : mid ≤ 1000000 := by omega
  obtain ⟨nn, hnn⟩ : ∃ p, p = mid + m := ⟨_, rfl⟩
  have enn : (mid : Int) + (m : Int) = (nn : Int) := by omega
  have nn6 : nn ≤ 2000000 := by omega
  have am : a < mid := by omega
  have mb : mid < b := by omega
  have HR := Lib.hid hR
  have HN := Lib.hid hn
  have HS1 := Lib.hid S1
  have HS2 := Lib.hid S2
  have HA := Lib.hid A
  have HAM := Lib.hid ham
  have HMB := Lib.hid hmb
  have HB := Lib.hid hb
  have HD := Lib.hid hD
  have HK := Lib.hid hK
  have HIH := Lib.hid IH
  have HMID := Lib.hid (And.intro am (And.intro mb (And.intro hnn (And.intro hmid hab))))
  have CM := Lib.hid (fun (x y : Nat) (wr : World) (hx : x < mm) (hy : y < mm) (hg : w.grownBy wr (some gd)) => cmp_any bk gk mm cm K x y wr (keys_grown hK hbk hgk hg) hx hy hm)
  have RO := Lib.hid (fun (F : List Nat) (p q r : Nat) (wr : World) (hRF : Row wr gd t (nc F)) (hl : n = F.length) (h1 : p < q) (h2 : q < r) (h3 : r ≤ n) => rotate_any gd t n c p q r bk F wr hRF hl hN h1 h2 h3)
  clear hR hn S1 S2 A ham hmb hb hD hK hma hbm hab hmid hnn IH am mb
  go_enter Tryd.func52, Tryd.ntmps52
  go_upto_if 140 with fail
  go_cut [20, 21] from 138 to 146 (fun s20 s21 wx => ∃ st r : Nat, s20 = .int .i64 st ∧ s21 = .int .i64 r ∧ a ≤ st ∧ st ≤ r ∧ r ≤ m ∧ r ≤ mid ∧ nn ≤ st + b ∧ (st = a ∨ st + b = nn) ∧ (r = m ∨ r = mid) ∧ w = wx)
  case first =>
    obtain ⟨x1, x2, x3, x4, x5⟩ := HMID.out
    have x6 := HAM.out
    have x7 := HMB.out
    by_cases hc : mid < m
    · have d1 : (mid : Int) < (m : Int) := by omega
      have d2 : decide (mid < m) = true := decide_eq_true hc
      obtain ⟨st, hst⟩ : ∃ p, p = nn - b := ⟨_, rfl⟩
      have est : (nn : Int) - (b : Int) = (st : Int) := by omega
      have st6 : st ≤ 1000000 := by omega
      have HX := Lib.hid (And.intro x1 (And.intro x2 (And.intro x3 (And.intro hc (And.intro hst (And.intro x4 x5))))))
      clear x1 x2 x3 x4 x5 x6 x7 hc hst
      go_wp2_with fail
      go_meet
      obtain ⟨x1, x2, x3, hc, hst, x4, x5⟩ := HX.out
      exact ⟨st, mid, rfl, rfl, by omega, by omega, by omega, by omega, by omega, .inr (by omega), .inr rfl, rfl⟩
    · have d1 : ¬ (mid : Int) < (m : Int) := by omega
      have d2 : decide (mid < m) = false := decide_eq_false hc
      have HX := Lib.hid (And.intro x1 (And.intro x2 (And.intro x3 (And.intro hc (And.intro x6 (And.intro x7 (And.intro x4 x5)))))))
      clear x1 x2 x3 x4 x5 x6 x7 hc
      go_wp2_with fail
      go_meet
      obtain ⟨x1, x2, x3, hc, x6, x7, x4, x5⟩ := HX.out
      exact ⟨a, m, rfl, rfl, by omega, by omega, by omega, by omega, by omega, .inl rfl, .inl rfl, rfl⟩
  case rest =>
    obtain ⟨s0, r0, rfl, rfl, y1, y2, y3, y4, y5, y6, y7, rfl⟩ := hcut
    have s06 : s0 ≤ 1000000 := by omega
    have r06 : r0 ≤ 1000000 := by omega
    obtain ⟨p, hp⟩ : ∃ p, p = nn - 1 := ⟨_, rfl⟩
    have ep : (nn : Int) - 1 = (p : Int) := by have := HAM.out; have := HMID.out; omega
    have p6 : p ≤ 2000000 := by omega
    have HY := Lib.hid (And.intro y1 (And.intro y2 (And.intro y3 (And.intro y4 (And.intro y5 (And.intro y6 (And.intro y7 hp)))))))
    clear y1 y2 y3 y4 y5 y6 y7 hp
    go_wp2_with fail
    go_loopw [20, 21, 23] (fun iv jv _ wr => ∃ (st r q : Nat), s0 ≤ st ∧ st ≤ r ∧ r ≤ r0 ∧ (st = s0 ∨ lt K (at' D (st - 1)) (at' D (p - (st - 1)))) ∧ (r = r0 ∨ lt K (at' D (p - r)) (at' D r)) ∧ iv = .int .i64 st ∧ jv = .int .i64 r ∧ wr = w.drewN q) (fun iv jv _ _ => (intOf jv).toNat - (intOf iv).toNat)
    case atStart => exact ⟨s0, r0, 0, Nat.le_refl _, HY.out.2.1, Nat.le_refl _, .inl rfl, .inl rfl, rfl, rfl, rfl⟩
    case round =>
      obtain ⟨st, r, q, z1, z2, z3, H1, H2, rfl, rfl, hw⟩ := hrel
      have gw : w.grownBy wr (some gd) := by rw [hw]; exact grown_drewN (grown_refl _ _) _
      have rw' : Row wr gd t (nc D) := by rw [hw]; exact HR.out.drewN q
      have HW := Lib.hid hw
      have GW := Lib.hid gw
      clear hw gw
      have st6 : st ≤ 1000000 := by omega
      have r6 : r ≤ 1000000 := by omega
      by_cases hlt : st < r
      · have ii : (st : Int) < (r : Int) := by omega
        obtain ⟨s, hs⟩ : ∃ s, s = st + r := ⟨_, rfl⟩
        obtain ⟨h, hh⟩ : ∃ h, h = s / 2 := ⟨_, rfl⟩
        have es : (st : Int) + (r : Int) = (s : Int) := by omega
        have eh : (s : Int) / 2 = (h : Int) := by omega
        have s6 : s ≤ 2000000 := by omega
        have h6 : h ≤ 1000000 := by omega
        have ih : st ≤ h := by omega
        have hj : h < r := by omega
        have hY := HY.out
        have hMI := HMID.out
        have hBo := HB.out
        have hNo := HN.out
        have hAMo := HAM.out
        have hMBo := HMB.out
        obtain ⟨ph, hph⟩ : ∃ ph, ph = p - h := ⟨_, rfl⟩
        have eph : (p : Int) - (h : Int) = (ph : Int) := by omega
        have ph1 : m ≤ ph := by omega
        have ph2 : ph < b := by omega
        have ph6 : ph ≤ 1000000 := by omega
        have phn : (ph : Int) < (n : Int) := by omega
        have hn : (h : Int) < (n : Int) := by omega
        obtain ⟨x, hx⟩ : ∃ x, x = at' D h := ⟨_, rfl⟩
        obtain ⟨y, hy⟩ : ∃ y, y = at' D ph := ⟨_, rfl⟩
        have c1 := (rw'.cell h).trans (get_nc D h (by omega))
        have c2 := (rw'.cell ph).trans (get_nc D ph (by omega))
        rw [← hx] at c1
        rw [← hy] at c2
        have CX1 := fun q' => CM.out y x (wr.drewN q') (by rw [hy]; exact HD.out ph (by omega)) (by rw [hx]; exact HD.out h (by omega)) (grown_drewN GW.out q')
        have HAP := HA.out h ph (by omega) (by omega) ph1 ph2
        rw [← hx, ← hy] at HAP
        by_cases hk : K.getD y 0 < K.getD x 0
        · have CXk := CX1
          rw [show cmpU (K.getD y 0) (K.getD x 0) = -1 by rw [cmpU, if_pos hk]] at CXk
          have CX := Lib.hid CXk
          have N2 := Lib.hid (show lt K (at' D (p - h)) (at' D h) by rw [← hph, ← hx, ← hy]; exact (lt_or' HAP).2 hk)
          have HH := Lib.hid (And.intro z1 (And.intro ih (And.intro hj z3)))
          have HH1 := Lib.hid H1
          clear H1 H2 hx hy hs hh CX1 CXk HAP hk z1 z2 z3 hlt ih hj hn rw' hY hMI hBo hNo hAMo hMBo hph ph1 ph2
          have hn : (h : Int) < (n : Int) := by have := HB.out; have := HH.out; have := HY.out; have := HMB.out; omega
          go_wp2_with fail
          go_quiet (first | (exact Calls.quiet_of (CX.out _)))
          go_wp2_with fail
          go_roundw
          case rel => obtain ⟨x1, x2, x3, x4⟩ := HH.out; exact ⟨st, h, q + nq, x1, x2, by omega, HH1.out, .inr N2.out, rfl, rfl, by rw [HW.out, World.drewN_drewN]⟩
          case measure => have := HH.out; simp [intOf] <;> omega
        · obtain ⟨cv, hcv⟩ : ∃ cv, cv = cmpU (K.getD y 0) (K.getD x 0) := ⟨_, rfl⟩
          rw [← hcv] at CX1
          have cv0 : ¬ cv < 0 := by rw [hcv, cmpU, if_neg hk]; split <;> omega
          have cvd : decide (cv < 0) = false := decide_eq_false cv0
          have CX := Lib.hid CX1
          have N1 := Lib.hid (show lt K (at' D (h + 1 - 1)) (at' D (p - (h + 1 - 1))) by rw [Nat.add_sub_cancel, ← hph, ← hx, ← hy]; exact (lt_or HAP).2 hk)
          have HH := Lib.hid (And.intro z1 (And.intro ih (And.intro hj z3)))
          have HH2 := Lib.hid H2
          clear H1 H2 hx hy hs hh CX1 HAP hk z1 z2 z3 hlt ih hj hn rw' hY hMI hBo hNo hAMo hMBo hph ph1 ph2 hcv
          have hn : (h : Int) < (n : Int) := by have := HB.out; have := HH.out; have := HY.out; have := HMB.out; omega
          go_wp2_with fail
          go_quiet (first | (exact Calls.quiet_of (CX.out _)))
          go_wp2_with fail
          go_roundw
          case rel => obtain ⟨x1, x2, x3, x4⟩ := HH.out; exact ⟨h + 1, r, q + nq, by omega, by omega, x4, .inr N1.out, HH2.out, by go_num, rfl, by rw [HW.out, World.drewN_drewN]⟩
          case measure => have := HH.out; simp [intOf] <;> omega
      · obtain rfl : st = r := by omega
        have ii : ¬ (st : Int) < (st : Int) := by omega
        obtain ⟨x1, x2, x3, x4, x5⟩ := HMID.out
        obtain ⟨y1, y2, y3, y4, y5, y6, y7, y8⟩ := HY.out
        have hAMo := HAM.out
        have hMBo := HMB.out
        obtain ⟨fin, hfin⟩ : ∃ f, f = nn - st := ⟨_, rfl⟩
        have efin : (nn : Int) - (st : Int) = (fin : Int) := by omega
        have f6 : fin ≤ 1000000 := by omega
        have g1 : a ≤ st := by omega
        have g2 : st ≤ m := by omega
        have g3 : m ≤ fin := by omega
        have g4 : fin ≤ b := by omega
        have g5 : mid = st + (fin - m) := by omega
        have G1 : st = a ∨ fin = b ∨ lt K (at' D (st - 1)) (at' D fin) := by
          rcases H1 with e | e
          · rcases y6 with e2 | e2
            · exact .inl (by omega)
            · exact .inr (.inl (by omega))
          · by_cases e3 : st = s0
            · rcases y6 with e2 | e2
              · exact .inl (by omega)
              · exact .inr (.inl (by omega))
            · rw [show p - (st - 1) = fin by omega] at e
              exact .inr (.inr e)
        have G2 : st = m ∨ fin = m ∨ lt K (at' D (fin - 1)) (at' D st) := by
          rcases H2 with e | e
          · rcases y7 with e2 | e2
            · exact .inl (by omega)
            · exact .inr (.inl (by omega))
          · by_cases e3 : st = r0
            · rcases y7 with e2 | e2
              · exact .inl (by omega)
              · exact .inr (.inl (by omega))
            · rw [show p - st = fin - 1 by omega] at e
              exact .inr (.inr e)
        have HV := Lib.hid (fun F (h : Rot D F st m fin) => halves h HS1.out HS2.out HA.out g1 g2 g3 g4 g5 G1 G2)
        have HG := Lib.hid (And.intro g1 (And.intro g2 (And.intro g3 (And.intro g4 g5))))
        have HRW := Lib.hid rw'
        clear x1 x2 x3 x4 x5 y1 y2 y3 y4 y5 y6 y7 y8 hAMo hMBo hfin g1 g2 g3 g4 g5 G1 G2 H1 H2 z1 z2 z3 hlt rw'
        go_upto_region 39 with fail
        go_cut [185] from 178 to 185 (fun s185 wx => ∃ v, s185 = .bool v ∧ (v = true ↔ (st < m ∧ m < fin)) ∧ wr = wx)
        case first =>
          by_cases h1 : st < m
          · have d1 : (st : Int) < (m : Int) := by omega
            have d2 : decide (st < m) = true := decide_eq_true h1
            by_cases h2 : m < fin
            · have d3 : (m : Int) < (fin : Int) := by omega
              have d4 : decide (m < fin) = true := decide_eq_true h2
              have R := Lib.hid (And.intro h1 h2)
              clear h1 h2
              go_wp2_with fail
              go_meet
              exact ⟨true, rfl, ⟨fun _ => R.out, fun _ => rfl⟩, rfl⟩
            · have d3 : ¬ (m : Int) < (fin : Int) := by omega
              have d4 : decide (m < fin) = false := decide_eq_false h2
              have R := Lib.hid (show ¬ (st < m ∧ m < fin) from (fun h => h2 h.2))
              clear h1 h2
              go_wp2_with fail
              go_meet
              exact ⟨false, rfl, by simpa only [Bool.false_eq_true, false_iff] using R.out, rfl⟩
          · have d1 : ¬ (st : Int) < (m : Int) := by omega
            have d2 : decide (st < m) = false := decide_eq_false h1
            have R := Lib.hid (show ¬ (st < m ∧ m < fin) from (fun h => h1 h.1))
            clear h1
            go_wp2_with fail
            go_meet
            exact ⟨false, rfl, by simpa only [Bool.false_eq_true, false_iff] using R.out, rfl⟩
        case rest =>
          obtain ⟨v, rfl, hv, rfl⟩ := hcut
          have HST := Lib.hid GW
          go_upto_if 185 with fail
          go_cut [] from 178 to 191 (fun wx => ∃ F, Row wx gd t (nc F) ∧ Rot D F st m fin ∧ w.grownBy wx (some gd))
          case first =>
            have HVV := Lib.hid hv
            clear hv
            rcases Bool.eq_false_or_eq_true v with ev | ev
            · have hc := HVV.out.1 ev
              clear HVV
              subst ev
              have HC := Lib.hid (RO.out D st m fin wr HRW.out HN.out hc.1 hc.2 (Nat.le_trans HG.out.2.2.2.1 HB.out))
              clear hc
              go_wp2_with fail
              refine HC.out.mono ?_
              rintro e w1 ⟨rfl, F, h1, h2, h3⟩
              have H := Lib.hid (And.intro h1 (And.intro h2 (grown_trans GW.out h3)))
              clear h1 h2 h3
              go_wp2_with fail
              go_meet
              exact ⟨F, H.out⟩
            · have hc : ¬ (st < m ∧ m < fin) := fun h => by have := HVV.out.2 h; rw [ev] at this; cases this
              clear HVV
              subst ev
              have RR : Hid (Rot D D st m fin) := Lib.hid (by
                have hG := HG.out
                by_cases e : st = m
                · rw [e]; exact Rot.none_left D m fin (by omega)
                · have e2 : fin = m := by omega
                  rw [e2]; exact Rot.none_right D st m (by omega))
              clear hc
              go_wp2_with fail
              go_meet
              exact ⟨D, HRW.out, RR.out, GW.out⟩
          case rest =>
            obtain ⟨F, hRF, hRot, hgF⟩ := hcut
            rename World => w2
            have HF := Lib.hid hRF
            have HH := Lib.hid (HV.out F hRot)
            have HGF := Lib.hid hgF
            have HFL := Lib.hid (HN.out.trans hRot.1.symm)
            have HFM := Lib.hid ((HV.out F hRot).mix.bound (by have := HB.out; have := HN.out; omega) HD.out)
            clear hRF hRot hgF
            go_upto_region 41 with fail
            go_cut [199] from 192 to 199 (fun s199 wx => ∃ v, s199 = .bool v ∧ (v = true ↔ (a < st ∧ st < mid)) ∧ w2 = wx)
            case first =>
              by_cases h1 : a < st
              · have d1 : (a : Int) < (st : Int) := by omega
                have d2 : decide (a < st) = true := decide_eq_true h1
                by_cases h2 : st < mid
                · have d3 : (st : Int) < (mid : Int) := by omega
                  have d4 : decide (st < mid) = true := decide_eq_true h2
                  have R := Lib.hid (And.intro h1 h2)
                  clear h1 h2
                  go_wp2_with fail
                  go_meet
                  exact ⟨true, rfl, ⟨fun _ => R.out, fun _ => rfl⟩, rfl⟩
                · have d3 : ¬ (st : Int) < (mid : Int) := by omega
                  have d4 : decide (st < mid) = false := decide_eq_false h2
                  have R := Lib.hid (show ¬ (a < st ∧ st < mid) from (fun h => h2 h.2))
                  clear h1 h2
                  go_wp2_with fail
                  go_meet
                  exact ⟨false, rfl, by simpa only [Bool.false_eq_true, false_iff] using R.out, rfl⟩
              · have d1 : ¬ (a : Int) < (st : Int) := by omega
                have d2 : decide (a < st) = false := decide_eq_false h1
                have R := Lib.hid (show ¬ (a < st ∧ st < mid) from (fun h => h1 h.1))
                clear h1
                go_wp2_with fail
                go_meet
                exact ⟨false, rfl, by simpa only [Bool.false_eq_true, false_iff] using R.out, rfl⟩
            case rest =>
              obtain ⟨v, rfl, hv, rfl⟩ := hcut
              go_upto_if 199 with fail
              go_cut [] from 192 to 205 (fun wx => ∃ G, Row wx gd t (nc G) ∧ Mix a mid F G ∧ Srt K G a mid ∧ w.grownBy wx (some gd))
              case first =>
                have HVV := Lib.hid hv
                clear hv
                rcases Bool.eq_false_or_eq_true v with ev | ev
                · have hc := HVV.out.1 ev
                  clear HVV
                  subst ev
                  have HC := Lib.hid (HIH.out a st mid (by have := HMID.out; omega) hc.1 hc.2 (by have := HMID.out; have := HB.out; omega) F w2 HF.out (keys_grown HK.out hbk hgk HGF.out) HFL.out HFM.out HH.out.s1 HH.out.s2 HH.out.p1)
                  clear hc
                  go_wp2_with fail
                  refine HC.out.mono ?_
                  rintro e w1 ⟨rfl, G, h1, h2, h3, h4⟩
                  have H := Lib.hid (And.intro h1 (And.intro h2 (And.intro h3 (grown_trans HGF.out h4))))
                  clear h1 h2 h3 h4
                  go_wp2_with fail
                  go_meet
                  exact ⟨G, H.out⟩
                · have hc : ¬ (a < st ∧ st < mid) := fun h => by have := HVV.out.2 h; rw [ev] at this; cases this
                  clear HVV
                  subst ev
                  have RR : Hid (Srt K F a mid) := Lib.hid (by
                    have hG := HG.out
                    by_cases e : a = st
                    · have := HH.out.s2; rw [← e] at this; exact this
                    · have e2 : mid = st := by omega
                      rw [e2]; exact HH.out.s1)
                  clear hc
                  go_wp2_with fail
                  go_meet
                  exact ⟨F, HF.out, Mix.refl _ _ _, RR.out, HGF.out⟩
              case rest =>
                obtain ⟨G, hRG, hMG, hSG, hgG⟩ := hcut
                rename World => w3
                have HRG := Lib.hid hRG
                have HMG := Lib.hid hMG
                have HSG := Lib.hid hSG
                have HGG := Lib.hid hgG
                have HGL := Lib.hid (HFL.out.trans hMG.1.symm)
                have HGM := Lib.hid (hMG.bound (by have := HB.out; have := HFL.out; have := HMID.out; omega) HFM.out)
                have T1 := Lib.hid (HH.out.s3.mix_out hMG (.inr (Nat.le_refl _)))
                have T2 := Lib.hid (HH.out.s4.mix_out hMG (.inr (by have := HG.out; omega)))
                have T3 := Lib.hid (HH.out.p2.mix_out hMG (.inr (Nat.le_refl _)))
                clear hRG hMG hSG hgG
                go_upto_region 43 with fail
                go_cut [213] from 206 to 213 (fun s213 wx => ∃ v, s213 = .bool v ∧ (v = true ↔ (mid < fin ∧ fin < b)) ∧ w3 = wx)
                case first =>
                  by_cases h1 : mid < fin
                  · have d1 : (mid : Int) < (fin : Int) := by omega
                    have d2 : decide (mid < fin) = true := decide_eq_true h1
                    by_cases h2 : fin < b
                    · have d3 : (fin : Int) < (b : Int) := by omega
                      have d4 : decide (fin < b) = true := decide_eq_true h2
                      have R := Lib.hid (And.intro h1 h2)
                      clear h1 h2
                      go_wp2_with fail
                      go_meet
                      exact ⟨true, rfl, ⟨fun _ => R.out, fun _ => rfl⟩, rfl⟩
                    · have d3 : ¬ (fin : Int) < (b : Int) := by omega
                      have d4 : decide (fin < b) = false := decide_eq_false h2
                      have R := Lib.hid (show ¬ (mid < fin ∧ fin < b) from (fun h => h2 h.2))
                      clear h1 h2
                      go_wp2_with fail
                      go_meet
                      exact ⟨false, rfl, by simpa only [Bool.false_eq_true, false_iff] using R.out, rfl⟩
                  · have d1 : ¬ (mid : Int) < (fin : Int) := by omega
                    have d2 : decide (mid < fin) = false := decide_eq_false h1
                    have R := Lib.hid (show ¬ (mid < fin ∧ fin < b) from (fun h => h1 h.1))
                    clear h1
                    go_wp2_with fail
                    go_meet
                    exact ⟨false, rfl, by simpa only [Bool.false_eq_true, false_iff] using R.out, rfl⟩
                case rest =>
                  obtain ⟨v, rfl, hv, rfl⟩ := hcut
                  have HVV := Lib.hid hv
                  clear hv
                  rcases Bool.eq_false_or_eq_true v with ev | ev
                  · have hc := HVV.out.1 ev
                    clear HVV
                    subst ev
                    have HC := Lib.hid (HIH.out mid fin b (by have := HMID.out; omega) hc.1 hc.2 HB.out G w3 HRG.out (keys_grown HK.out hbk hgk HGG.out) HGL.out HGM.out T1.out T2.out T3.out)
                    clear hc
                    go_wp2_with fail
                    refine HC.out.mono ?_
                    rintro e w1 ⟨rfl, X, h1, h2, h3, h4⟩
                    have hE := halves_end HH.out HMG.out HSG.out h2 h3 (by have := HMID.out; omega) (by have := HMID.out; omega)
                    have H := Lib.hid (And.intro h1 (And.intro hE.1 (And.intro hE.2 (grown_trans HGG.out h4))))
                    clear h1 h2 h3 h4 hE
                    go_wp2_with fail
                    first | go_end0 | (try simp only [Exit.inBlock, Exit.then]); refine bodyPost_ret (results_none rfl _ _ _) rfl ?_
                    exact ⟨rfl, X, H.out⟩
                  · have hc : ¬ (mid < fin ∧ fin < b) := fun h => by have := HVV.out.2 h; rw [ev] at this; cases this
                    clear HVV
                    subst ev
                    have RR : Hid (Srt K G mid b) := Lib.hid (by
                      have hG := HG.out
                      by_cases e : mid = fin
                      · have := T2.out; rw [← e] at this; exact this
                      · have e2 : b = fin := by omega
                        rw [e2]; exact T1.out)
                    have hE := halves_end HH.out HMG.out HSG.out (Mix.refl _ _ _) RR.out (by have := HMID.out; omega) (by have := HMID.out; omega)
                    have H := Lib.hid (And.intro HRG.out (And.intro hE.1 (And.intro hE.2 HGG.out)))
                    clear hc hE
                    go_wp2_with fail
                    first | go_end0 | (try simp only [Exit.inBlock, Exit.then]); refine bodyPost_ret (results_none rfl _ _ _) rfl ?_
                    exact ⟨rfl, G, H.out⟩

theorem sym_any (gd t n c bk gk mm cm : Nat) (K : List Nat) (hN : n ≤ 1000000) (hm : mm ≤ 1000000) (hbk : bk ≠ gd) (hgk : gk ≠ gd) : ∀ (d a m b : Nat), b - a ≤ d → a < m → m < b → b ≤ n → MergeOk gd t n c a m b bk gk mm cm K := by
  intro d
  induction d with
  | zero => intro a m b h1 h2 h3 h4; omega
  | succ d ih =>
    intro a m b h1 h2 h3 h4
    by_cases e : m = a + 1
    · exact fun D w hR hK hn hD S1 S2 A => sym_left gd t n c a m b bk gk mm cm D K w hR hK hn hN hm hbk hgk hD S2 A e h3 h4
    · by_cases e2 : b = m + 1
      · exact fun D w hR hK hn hD S1 S2 A => sym_right gd t n c a m b bk gk mm cm D K w hR hK hn hN hm hbk hgk hD S1 A (by omega) e2 h4
      · exact sym_gen gd t n c a m b bk gk mm cm K hN hm hbk hgk (by omega) (by omega) h4 (fun a' m' b' x1 x2 x3 x4 => ih a' m' b' (by omega) x2 x3 x4)
end Go.Proofs.YtnpkbjekodjcjaaDoor
