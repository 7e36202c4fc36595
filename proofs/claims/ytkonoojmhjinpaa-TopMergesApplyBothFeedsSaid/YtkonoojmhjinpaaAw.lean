/- Contracts: Apply's closure. -/
import Derived.Test.YtkonoojmhjinpaaAx
set_option linter.all false
namespace Go.Proofs.Ytkonoojmhjinpaa
open Go.RowKit Go.Fen
set_option linter.unusedVariables false
set_option maxHeartbeats 4000000

set_option maxRecDepth 20000 in
theorem apply1_any (V0 : World) (gv gg : Nat) (N : Int) (u : Value) (b : Bool) (L : List Ln) (m : Int) (p q : Option Addr) (x : Option Rv) (y : Option It) (w : World) (hA : AccX V0 gv gg N u b L w) (hp : Fla p) (hx : Pt V0 (up p) x) (hy : PIt V0 q y) (hL : L.length ≤ 100000) (hN0 : 0 ≤ N) (hN1 : N ≤ 1000000) (hm0 : 0 ≤ m) (hm1 : m ≤ 1000000) :
    Calls Try.prog 30 #[.int .i64 m, .pointer p, .pointer q, .pointer (some ⟨gg, 0, none⟩), .pointer (some ⟨gv, 0, none⟩)] w fun e w' => e = .returned (.tuple #[]) ∧ ∃ u', AccX V0 gv gg (nextOf N m (aft x y)) u' (b || gapOf x y) (L ++ outOf m (aft x y)) w' := by
  have HROW := Lib.hid (row_at p hp)
  obtain ⟨P, hP⟩ : ∃ P, P = up p := ⟨_, rfl⟩
  rw [← hP] at HROW hx
  have HA := Lib.hid hA
  have HXP := Lib.hid hx
  have HL := Lib.hid hL
  have kg : w.cell? ⟨gg, 0, none⟩ = some (.bool b) := hA.gap.cell 0
  have kf := hA.gap.frozen 0
  have KK := Lib.hid (fun (W : World) (hW : AccX V0 gv gg N u b L W) => hW.keeps)
  clear hP hp hL
  rcases hy with ⟨rfl, rfl⟩ | ⟨g, o, i, rfl, rfl, hr, hio, cs, fr, htag⟩
  · skip
    rcases hx with ⟨rfl, rfl⟩ | ⟨g, o, r, rfl, rfl, hg, hc, hro, _⟩
    · go_enter Try.func30, Try.ntmps30
      go_wp2_with (first | ((go_at_call 24; refine (HROW.out w).mono ?_; rintro e w2 ⟨rfl, hw2⟩; subst w2)))
      first | go_end0 | ((try simp only [Exit.inBlock, Exit.then]); refine bodyPost_ret (results_none rfl _ _ _) rfl ?_)
      exact ⟨rfl, u, by have q := HA.out; simpa [aft, gapOf, outOf, nextOf] using q⟩
    · have cr : w.cell? ⟨g, o, none⟩ = some (rvv r) := by
        rcases HXP.out.keep (KK.out w HA.out 45 (by decide) (by decide)) (KK.out w HA.out 71 (by decide) (by decide)) (KK.out w HA.out 58 (by decide) (by decide)) with ⟨h, _⟩ | ⟨g', o', r', e1, e2, _, hc', _⟩
        · cases h
        · injection e1 with e1
          injection e1 with e1 e3
          injection e2 with e2
          subst e1 e2 e3
          exact hc'
      have HB := HA
      clear hc hg hro kg kf
      go_enter Try.func30, Try.ntmps30
      go_wp2_with (first | ((go_at_call 24; refine (HROW.out w).mono ?_; rintro e w2 ⟨rfl, hw2⟩; subst w2)))
      have k1 : w.cell? ⟨gv, 1, none⟩ = some u := HB.out.tab.cell 1
      have k1b : ∀ (o : Obj), (w.alloc o).cell? ⟨gv, 1, none⟩ = some u := fun o => ((Below.refl w.heap.size w).alloc (Nat.le_refl _) o |>.cell (p := ⟨gv, 1, none⟩) HB.out.tab.lt).trans k1
      go_region_law (refine step_pushK rfl (.tmp 30) (.tmp 36) 36 45 rfl _ 2 32 Try.underlying36 Try.info45 rfl (by decide) (by decide) V0.heap.size u L.length (L.flatMap lnc) rfl w.drew _ (lnc (Ln.mk m r)) rfl (one_lnc _) rfl (HB.out.drewN 1).own (HB.out.drewN 1).kept.size w.heap.size rfl rfl (by have := HL.out; omega) (fun ge ce w' hv' hg => ?_); obtain ⟨hrow, hAF⟩ := AccX.push (l := Ln.mk m r) (HB.out.drewN 1) ((Below.refl _ _).alloc (Nat.le_refl _) _) hv' rfl hg; have z3 : w'.cell? ⟨gv, 1, none⟩ = some u := hrow.cell 1; have z4 := hrow.frozen 1; have HAF := Lib.hid hAF; clear hAF hrow hv' hg)
      all_goals
        have HAG : Hid (AccX V0 gv gg N (.slice (some ⟨ge, 0, none⟩) (L.length + 1) ce) b (L ++ [Ln.mk m r]) (w'.setCell ⟨gv, 1, none⟩ (.slice (some ⟨ge, 0, none⟩) (L.length + 1) ce))) := HAF
        obtain ⟨w5, hw5⟩ : ∃ x, x = w'.setCell ⟨gv, 1, none⟩ (.slice (some ⟨ge, 0, none⟩) (L.length + 1) ce) := ⟨_, rfl⟩
        rw [← hw5] at HAG
        try rw [← hw5]
        have kN0 : w5.cell? ⟨gv, 0, none⟩ = some (.int .i64 N) := HAG.out.tab.cell 0
        have kN1 := HAG.out.tab.frozen 0
        clear HAF hw5 z3 z4 k1 k1b
        rcases Int.lt_or_le N (m + 1) with hmx | hmx
        · have e : max N (m + 1) = m + 1 := by omega
          have HE := Lib.hid e
          clear e
          go_wp2_with fail
          first | go_end0 | ((try simp only [Exit.inBlock, Exit.then]); refine bodyPost_ret (results_none rfl _ _ _) rfl ?_)
          exact ⟨rfl, _, by have q := HAG.out.setNext (m + 1); simpa [aft, gapOf, outOf, nextOf, HE.out] using q⟩
        · have e : max N (m + 1) = N := by omega
          have HE := Lib.hid e
          clear e
          go_wp2_with fail
          first | go_end0 | ((try simp only [Exit.inBlock, Exit.then]); refine bodyPost_ret (results_none rfl _ _ _) rfl ?_)
          exact ⟨rfl, _, by have q := HAG.out.setNext N; simpa [aft, gapOf, outOf, nextOf, HE.out] using q⟩
  · skip
    have HIT := Lib.hid (fun (W : World) (hk : Keeps V0 W 87) => range_keep hr htag hk)
    have i1 : w.cell? ⟨g, o + 1, none⟩ = some (.pointer i.p) := HIT.out w (KK.out w HA.out 87 (by decide) (by decide)) 1 _ rfl
    have HPQ := Lib.hid (fun (W : World) (h1 : Keeps V0 W 45) (h2 : Keeps V0 W 71) (h3 : Keeps V0 W 58) => (show Pt W P x ∧ Pt W i.p i.x ∧ Pt W i.q i.y from ⟨HXP.out.keep h1 h2 h3, hio.1.keep h1 h2 h3, hio.2.keep h1 h2 h3⟩))
    have HPW := Lib.hid (HPQ.out w (KK.out w HA.out 45 (by decide) (by decide)) (KK.out w HA.out 71 (by decide) (by decide)) (KK.out w HA.out 58 (by decide) (by decide)))
    have HS := Lib.hid (same_any P i.p x i.x w HPW.out.1 HPW.out.2.1)
    obtain ⟨s, hs⟩ : ∃ s, s = sameS x i.x := ⟨_, rfl⟩
    rw [← hs] at HS
    have HSS := Lib.hid hs
    clear hr hio htag hs
    have HIQ := Lib.hid hx
    clear hx
    cases hb : b with
    | true =>
      have HG0 := Lib.hid (show b = true from hb)
      subst hb
      clear kf
      have kf := HA.out.gap.frozen 0
      go_enter Try.func30, Try.ntmps30
      go_upto_region 3 with (first | ((go_at_call 24; refine (HROW.out w).mono ?_; rintro e w2 ⟨rfl, hw2⟩; subst w2)))
      try simp only [Act.put, List.setIfInBounds_toArray, List.set_cons_zero, List.set_cons_succ]
      have HB := Lib.hid (HA.out.setGap true)
      obtain ⟨wA, hwA⟩ : ∃ x, x = w.setCell ⟨gg, 0, none⟩ (.bool true) := ⟨_, rfl⟩
      rw [← hwA] at HB
      rw [← hwA]
      have i2 : wA.cell? ⟨g, o + 2, none⟩ = some (.pointer i.q) := HIT.out wA (HB.out.keeps 87 (by decide) (by decide)) 2 _ rfl
      have HPA := (HPQ.out wA (HB.out.keeps 45 (by decide) (by decide)) (HB.out.keeps 71 (by decide) (by decide)) (HB.out.keeps 58 (by decide) (by decide))).2.2
      clear hwA
      rcases HPA with ⟨hq0, hy0⟩ | ⟨g2, o2, r, hq0, hy0, hg2, cr, hro2, _⟩
      · rw [hq0] at i2
        have HY := Lib.hid hy0
        clear hy0 hq0
        go_wp2_with fail
        first | go_end0 | ((try simp only [Exit.inBlock, Exit.then]); refine bodyPost_ret (results_none rfl _ _ _) rfl ?_)
        exact ⟨rfl, u, by have q := HB.out; simpa [aft, gapOf, outOf, nextOf, HY.out, HSS.out] using q⟩
      · rw [hq0] at i2
        have HY := Lib.hid hy0
        clear hy0 hq0 hro2 hg2
        go_wp2_with fail
        have k1 : wA.cell? ⟨gv, 1, none⟩ = some u := HB.out.tab.cell 1
        have k1b : ∀ (o : Obj), (wA.alloc o).cell? ⟨gv, 1, none⟩ = some u := fun o => ((Below.refl wA.heap.size wA).alloc (Nat.le_refl _) o |>.cell (p := ⟨gv, 1, none⟩) HB.out.tab.lt).trans k1
        go_region_law (refine step_pushK rfl (.tmp 30) (.tmp 36) 36 45 rfl _ 2 32 Try.underlying36 Try.info45 rfl (by decide) (by decide) V0.heap.size u L.length (L.flatMap lnc) rfl wA.drew _ (lnc (Ln.mk m r)) rfl (one_lnc _) rfl (HB.out.drewN 1).own (HB.out.drewN 1).kept.size wA.heap.size rfl rfl (by have := HL.out; omega) (fun ge ce w' hv' hg => ?_); obtain ⟨hrow, hAF⟩ := AccX.push (l := Ln.mk m r) (HB.out.drewN 1) ((Below.refl _ _).alloc (Nat.le_refl _) _) hv' rfl hg; have z3 : w'.cell? ⟨gv, 1, none⟩ = some u := hrow.cell 1; have z4 := hrow.frozen 1; have HAF := Lib.hid hAF; clear hAF hrow hv' hg)
        all_goals
          have HAG : Hid (AccX V0 gv gg N (.slice (some ⟨ge, 0, none⟩) (L.length + 1) ce) true (L ++ [Ln.mk m r]) (w'.setCell ⟨gv, 1, none⟩ (.slice (some ⟨ge, 0, none⟩) (L.length + 1) ce))) := HAF
          obtain ⟨w5, hw5⟩ : ∃ x, x = w'.setCell ⟨gv, 1, none⟩ (.slice (some ⟨ge, 0, none⟩) (L.length + 1) ce) := ⟨_, rfl⟩
          rw [← hw5] at HAG
          try rw [← hw5]
          have kN0 : w5.cell? ⟨gv, 0, none⟩ = some (.int .i64 N) := HAG.out.tab.cell 0
          have kN1 := HAG.out.tab.frozen 0
          clear HAF hw5 z3 z4 k1 k1b
          rcases Int.lt_or_le N (m + 1) with hmx | hmx
          · have e : max N (m + 1) = m + 1 := by omega
            have HE := Lib.hid e
            clear e
            go_wp2_with fail
            first | go_end0 | ((try simp only [Exit.inBlock, Exit.then]); refine bodyPost_ret (results_none rfl _ _ _) rfl ?_)
            exact ⟨rfl, _, by have q := HAG.out.setNext (m + 1); simpa [aft, gapOf, outOf, nextOf, HY.out, HSS.out, HE.out] using q⟩
          · have e : max N (m + 1) = N := by omega
            have HE := Lib.hid e
            clear e
            go_wp2_with fail
            first | go_end0 | ((try simp only [Exit.inBlock, Exit.then]); refine bodyPost_ret (results_none rfl _ _ _) rfl ?_)
            exact ⟨rfl, _, by have q := HAG.out.setNext N; simpa [aft, gapOf, outOf, nextOf, HY.out, HSS.out, HE.out] using q⟩
    | false =>
      have HG0 := Lib.hid (show b = false from hb)
      subst hb
      clear kf
      have kf := HA.out.gap.frozen 0
      go_enter Try.func30, Try.ntmps30
      go_upto_region 3 with (first | ((first | (go_at_call 24; refine (HROW.out w).mono ?_; rintro e w2 ⟨rfl, hw2⟩; subst w2) | (go_at_call 31; refine HS.out.mono ?_; rintro e w3 ⟨rfl, hb3⟩; have HA3 := Lib.hid (HA.out.call hb3); have kf3 := HA3.out.gap.frozen 0; have kg3 : w3.cell? ⟨gg, 0, none⟩ = some (.bool false) := HA3.out.gap.cell 0; clear hb3))))
      try simp only [Act.put, List.setIfInBounds_toArray, List.set_cons_zero, List.set_cons_succ]
      have HB := Lib.hid (HA3.out.setGap (!s))
      obtain ⟨wA, hwA⟩ : ∃ x, x = w3.setCell ⟨gg, 0, none⟩ (.bool (!s)) := ⟨_, rfl⟩
      rw [← hwA] at HB
      rw [← hwA]
      have i2 : wA.cell? ⟨g, o + 2, none⟩ = some (.pointer i.q) := HIT.out wA (HB.out.keeps 87 (by decide) (by decide)) 2 _ rfl
      have HPA := (HPQ.out wA (HB.out.keeps 45 (by decide) (by decide)) (HB.out.keeps 71 (by decide) (by decide)) (HB.out.keeps 58 (by decide) (by decide))).2.2
      clear hwA
      rcases HPA with ⟨hq0, hy0⟩ | ⟨g2, o2, r, hq0, hy0, hg2, cr, hro2, _⟩
      · rw [hq0] at i2
        have HY := Lib.hid hy0
        clear hy0 hq0
        go_wp2_with fail
        first | go_end0 | ((try simp only [Exit.inBlock, Exit.then]); refine bodyPost_ret (results_none rfl _ _ _) rfl ?_)
        exact ⟨rfl, u, by have q := HB.out; simpa [aft, gapOf, outOf, nextOf, HY.out, HSS.out] using q⟩
      · rw [hq0] at i2
        have HY := Lib.hid hy0
        clear hy0 hq0 hro2 hg2
        go_wp2_with fail
        have k1 : wA.cell? ⟨gv, 1, none⟩ = some u := HB.out.tab.cell 1
        have k1b : ∀ (o : Obj), (wA.alloc o).cell? ⟨gv, 1, none⟩ = some u := fun o => ((Below.refl wA.heap.size wA).alloc (Nat.le_refl _) o |>.cell (p := ⟨gv, 1, none⟩) HB.out.tab.lt).trans k1
        go_region_law (refine step_pushK rfl (.tmp 30) (.tmp 36) 36 45 rfl _ 2 32 Try.underlying36 Try.info45 rfl (by decide) (by decide) V0.heap.size u L.length (L.flatMap lnc) rfl wA.drew _ (lnc (Ln.mk m r)) rfl (one_lnc _) rfl (HB.out.drewN 1).own (HB.out.drewN 1).kept.size wA.heap.size rfl rfl (by have := HL.out; omega) (fun ge ce w' hv' hg => ?_); obtain ⟨hrow, hAF⟩ := AccX.push (l := Ln.mk m r) (HB.out.drewN 1) ((Below.refl _ _).alloc (Nat.le_refl _) _) hv' rfl hg; have z3 : w'.cell? ⟨gv, 1, none⟩ = some u := hrow.cell 1; have z4 := hrow.frozen 1; have HAF := Lib.hid hAF; clear hAF hrow hv' hg)
        all_goals
          have HAG : Hid (AccX V0 gv gg N (.slice (some ⟨ge, 0, none⟩) (L.length + 1) ce) (!s) (L ++ [Ln.mk m r]) (w'.setCell ⟨gv, 1, none⟩ (.slice (some ⟨ge, 0, none⟩) (L.length + 1) ce))) := HAF
          obtain ⟨w5, hw5⟩ : ∃ x, x = w'.setCell ⟨gv, 1, none⟩ (.slice (some ⟨ge, 0, none⟩) (L.length + 1) ce) := ⟨_, rfl⟩
          rw [← hw5] at HAG
          try rw [← hw5]
          have kN0 : w5.cell? ⟨gv, 0, none⟩ = some (.int .i64 N) := HAG.out.tab.cell 0
          have kN1 := HAG.out.tab.frozen 0
          clear HAF hw5 z3 z4 k1 k1b
          rcases Int.lt_or_le N (m + 1) with hmx | hmx
          · have e : max N (m + 1) = m + 1 := by omega
            have HE := Lib.hid e
            clear e
            go_wp2_with fail
            first | go_end0 | ((try simp only [Exit.inBlock, Exit.then]); refine bodyPost_ret (results_none rfl _ _ _) rfl ?_)
            exact ⟨rfl, _, by have q := HAG.out.setNext (m + 1); simpa [aft, gapOf, outOf, nextOf, HY.out, HSS.out, HE.out] using q⟩
          · have e : max N (m + 1) = N := by omega
            have HE := Lib.hid e
            clear e
            go_wp2_with fail
            first | go_end0 | ((try simp only [Exit.inBlock, Exit.then]); refine bodyPost_ret (results_none rfl _ _ _) rfl ?_)
            exact ⟨rfl, _, by have q := HAG.out.setNext N; simpa [aft, gapOf, outOf, nextOf, HY.out, HSS.out, HE.out] using q⟩
end Go.Proofs.Ytkonoojmhjinpaa
