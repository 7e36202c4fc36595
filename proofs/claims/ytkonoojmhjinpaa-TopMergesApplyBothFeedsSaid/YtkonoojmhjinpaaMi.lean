/- Contracts: lineage's merge, at lines and items. -/
import Derived.Test.YtkonoojmhjinpaaAw
set_option linter.all false
namespace Go.Proofs.Ytkonoojmhjinpaa
open Go.RowKit Go.Fen
set_option linter.unusedVariables false
set_option maxHeartbeats 8000000

/-- items in memory -/
def ITs (w : World) (a : Option Addr) (I : List It) : Prop := Lt 87 3 itc w a I ∧ ∀ i ∈ I, IOk w i
theorem ITs.nil (w : World) (a : Option Addr) : ITs w a [] := ⟨.inl rfl, by simp⟩
theorem ITs.keep {w w' : World} {a : Option Addr} {I : List It} (h : ITs w a I) (h1 : Keeps w w' 45) (h2 : Keeps w w' 71) (h3 : Keeps w w' 58) (h4 : Keeps w w' 87) : ITs w' a I := ⟨h.1.keep h4, fun i hi => (h.2 i hi).keep h1 h2 h3⟩
theorem ITs.uncons {w : World} {a : Option Addr} {x : It} {A : List It} (h : ITs w a (x :: A)) : ∃ g o, a = some ⟨g, o, none⟩ ∧ g < w.heap.size ∧ w.cell? ⟨g, o, none⟩ = some (.int .i64 x.n) ∧ PIt w (some ⟨g, o, none⟩) (some x) ∧ ITs w (some ⟨g, o + 3, none⟩) A := by
  rcases h.1 with h0 | ⟨g, o, ea, hg, hc, htag⟩
  · simp at h0
  · have hr : w.rangeAt g o (itc x) := by have := hc 0 x rfl; simpa using this
    have h0 : w.cell? ⟨g, o, none⟩ = some (.int .i64 x.n) := by have := hr 0 _ rfl; simpa using this
    obtain ⟨cs, fr, ht⟩ := htag
    refine ⟨g, o, ea, hg, h0, .inr ⟨g, o, x, rfl, rfl, hr, h.2 x (by simp), cs, fr, ht⟩, .inr ⟨g, o + 3, rfl, hg, fun i y hy => ?_, cs, fr, ht⟩, fun l hl => h.2 l (by simp [hl])⟩
    have := hc (i + 1) y (by simpa using hy)
    rw [show o + 3 + i * 3 = o + (i + 1) * 3 by omega]
    exact this
theorem ITs.cell {w : World} {g o : Nat} {x : It} {A : List It} (h : ITs w (some ⟨g, o, none⟩) (x :: A)) : w.cell? ⟨g, o, none⟩ = some (.int .i64 x.n) := by
  obtain ⟨g', o', e, _, h0, _⟩ := h.uncons
  injection e with e
  injection e with e1 e2
  subst e1 e2
  exact h0
/-- the state behind an entry of the merge -/
def apS (st : Int × Bool × List Ln) (t : Int × Option Ln × Option It) : Int × Bool × List Ln :=
  (nextOf st.1 t.1 (aft (t.2.1.map (·.r)) t.2.2), st.2.1 || gapOf (t.2.1.map (·.r)) t.2.2, st.2.2 ++ outOf t.1 (aft (t.2.1.map (·.r)) t.2.2))
theorem outOf_len (m : Int) (x : Option Rv) : (outOf m x).length ≤ 1 := by cases x <;> simp [outOf]
theorem nextOf_le (N m : Int) (x : Option Rv) (h : N ≤ 1000000) (h2 : m < 1000000) : nextOf N m x ≤ 1000000 := by cases x <;> simp only [nextOf] <;> omega
theorem nextOf_ge (N m : Int) (x : Option Rv) (h : 0 ≤ N) : 0 ≤ nextOf N m x := by cases x <;> simp only [nextOf] <;> omega
set_option maxRecDepth 20000 in
theorem merge2_any (V0 : World) (gv gg : Nat) (N0 : Int) (u0 : Value) (L1 : List Ln) (L2 : List It) (a1 a2 : Option Addr) (c1 c2 : Nat) (w : World) (hA : AccX V0 gv gg N0 u0 false [] w) (h1 : Lns V0 a1 L1) (h2 : ITs V0 a2 L2) (hc1 : L1.length ≤ c1) (hc2 : L2.length ≤ c2) (hl1 : L1.length ≤ 1000) (hl2 : L2.length ≤ 10000) (hb1 : ∀ l ∈ L1, 0 ≤ l.n ∧ l.n < 1000000) (hb2 : ∀ l ∈ L2, 0 ≤ l.n ∧ l.n < 1000000) (hN0 : 0 ≤ N0) (hN1 : N0 ≤ 1000000) :
    Calls Try.prog 27 #[.slice a1 L1.length c1, .slice a2 L2.length c2, .func (.func 22) #[] #[], .func (.func 29) #[] #[], .func (.func 30) #[] #[.pointer (some ⟨gg, 0, none⟩), .pointer (some ⟨gv, 0, none⟩)]] w fun e w' => e = .returned (.tuple #[]) ∧ ∃ (N : Int) (u : Value) (b : Bool) (L : List Ln), AccX V0 gv gg N u b L w' ∧ (mg Ln.n It.n L1 L2).foldl apS (N0, false, []) = (N, b, L) ∧ L.length ≤ L1.length + L2.length := by
  have HA0 := Lib.hid hA
  have H1 := Lib.hid h1
  have H2 := Lib.hid h2
  have HB1 := Lib.hid hb1
  have HB2 := Lib.hid hb2
  have HN0 := Lib.hid (And.intro hN0 hN1)
  have HL := Lib.hid (show L1.length ≤ c1 ∧ L2.length ≤ c2 ∧ L1.length ≤ 1000 ∧ L2.length ≤ 10000 from ⟨hc1, hc2, hl1, hl2⟩)
  obtain ⟨n1, hn1⟩ : ∃ n, n = L1.length := ⟨_, rfl⟩
  obtain ⟨n2, hn2⟩ : ∃ n, n = L2.length := ⟨_, rfl⟩
  rw [← hn1, ← hn2]
  have HN1 := Lib.hid hn1
  have HN2 := Lib.hid hn2
  clear hA h1 h2 hb1 hb2 hc1 hc2 hl1 hl2 hn1 hn2 hN0 hN1
  go_enter Try.func27, Try.ntmps27
  go_wp2_with fail
  go_loopw [0, 1] (fun sa sb wr => ∃ (A : List Ln) (B : List It) (pa pb : Option Addr) (ca cb : Nat) (N : Int) (u : Value) (b : Bool) (L : List Ln), sa = .slice pa A.length ca ∧ sb = .slice pb B.length cb ∧ A.length ≤ ca ∧ B.length ≤ cb ∧ Lns V0 pa A ∧ ITs V0 pb B ∧ (∀ l ∈ A, 0 ≤ l.n ∧ l.n < 1000000) ∧ (∀ l ∈ B, 0 ≤ l.n ∧ l.n < 1000000) ∧ L.length + A.length + B.length ≤ n1 + n2 ∧ (0 ≤ N ∧ N ≤ 1000000) ∧ AccX V0 gv gg N u b L wr ∧ (mg Ln.n It.n L1 L2).foldl apS (N0, false, []) = (mg Ln.n It.n A B).foldl apS (N, b, L)) (fun sa sb _ => lenV sa + lenV sb)
  case atStart => exact ⟨L1, L2, _, _, _, _, _, _, _, [], by rw [HN1.out], by rw [HN2.out], HL.out.1, HL.out.2.1, H1.out, H2.out, HB1.out, HB2.out, by rw [HN1.out, HN2.out]; simp, HN0.out, HA0.out, rfl⟩
  case round =>
    obtain ⟨A, B, pa, pb, ca, cb, N, u, b, L, rfl, rfl, hca, hcb, hpa, hpb, hba, hbb, hlen, hNN, hA, hmg⟩ := hrel
    have HMG := Lib.hid hmg
    have HA := Lib.hid hA
    have HLen := Lib.hid hlen
    have HPA := Lib.hid hpa
    have HPB := Lib.hid hpb
    have HBA := Lib.hid hba
    have HBB := Lib.hid hbb
    have HNN := Lib.hid hNN
    clear hmg hA hlen hba hbb hNN
    cases A with
    | nil =>
      cases B with
      | nil =>
        have HKEY := Lib.hid (show (mg Ln.n It.n L1 L2).foldl apS (N0, false, []) = (N, b, L) from by have q := HMG.out; rw [q, mg]; rfl)
        have HLL := Lib.hid (show L.length ≤ n1 + n2 by have := HLen.out; simp at this; omega)
        simp only [List.length_nil] at hca hcb ⊢
        go_wp2_with fail
        first | go_end0 | ((try simp only [Exit.inBlock, Exit.then]); refine bodyPost_ret (results_none rfl _ _ _) rfl ?_)
        exact ⟨rfl, N, u, b, L, HA.out, HKEY.out, HLL.out⟩
      | cons y B =>
        obtain ⟨gy, oy, ey, hgy, _, hpty, htly⟩ := hpb.uncons
        subst ey
        have HPTy := Lib.hid hpty
        have HTLy := Lib.hid htly
        have cy : wr.cell? ⟨gy, oy, none⟩ = some (.int .i64 y.n) := (HPB.out.keep (HA.out.keeps 45 (by decide) (by decide)) (HA.out.keeps 71 (by decide) (by decide)) (HA.out.keeps 58 (by decide) (by decide)) (HA.out.keeps 87 (by decide) (by decide))).cell
        obtain ⟨hby0, hby1⟩ := HBB.out y (by simp)
        clear hpty htly
        simp only [List.length_cons, List.length_nil] at hca hcb ⊢
        obtain ⟨nb, hnb⟩ : ∃ n, n = B.length := ⟨_, rfl⟩
        rw [← hnb] at hcb ⊢
        have HNB := Lib.hid hnb
        have nb1 : nb ≤ 100000 := by have := HLen.out; have := HL.out; have := HN1.out; have := HN2.out; simp at *; omega
        clear hnb
        have HKEY := Lib.hid (show (mg Ln.n It.n L1 L2).foldl apS (N0, false, []) = (mg Ln.n It.n [] B).foldl apS (nextOf N y.n (aft none (some y)), b || gapOf none (some y), L ++ outOf y.n (aft none (some y))) from by
          have q := HMG.out
          rw [q, mg]
          rfl)
        have hll : L.length ≤ 100000 := by have := HLen.out; have := HL.out; have := HN1.out; have := HN2.out; simp at *; omega
        have HF := Lib.hid (fun (W : World) (hW : AccX V0 gv gg N u b L W) => apply1_any V0 gv gg N u b L y.n none (some ⟨gy, oy, none⟩) none (some y) W hW (.inl rfl) (.inl ⟨rfl, rfl⟩) HPTy.out hll HNN.out.1 HNN.out.2 hby0 (by omega))
        have HCA := Lib.hid hca
        have HCB := Lib.hid hcb
        clear hll
        go_upto_region 11 with (first | ((first | (go_at_call 29; refine (ofItem_any gy oy y.n _ (by simpa using cy)).mono ?_; rintro e w2 ⟨rfl, hw2⟩; subst w2))))
        try simp only [Act.put, List.setIfInBounds_toArray, List.set_cons_zero, List.set_cons_succ]
        go_cut [11, 1] from 63 to 66 (fun s1 s2 wx => s1 = .pointer (some ⟨gy, oy, none⟩) ∧ (∃ q c', s2 = .slice q nb c' ∧ nb ≤ c' ∧ ITs V0 q B) ∧ ∃ k, wx = wr.drewN k)
        case first =>
          by_cases hcap : cb = 1
          · go_quiet (fail)
            all_goals (try go_wp2_with fail)
            go_meet
            exact ⟨rfl, ⟨_, _, rfl, by have := HCB.out; omega, by obtain rfl : B = [] := List.length_eq_zero_iff.1 (by have := HNB.out; have := HCB.out; omega); exact ITs.nil _ _⟩, _, by first | rfl | rw [World.drewN_drewN]⟩
          · go_quiet (fail)
            all_goals (try go_wp2_with fail)
            go_meet
            exact ⟨rfl, ⟨_, _, rfl, by have := HCB.out; omega, HTLy.out⟩, _, by first | rfl | rw [World.drewN_drewN]⟩
        obtain ⟨rfl, ⟨qy, cy', rfl, hqy, hly⟩, ky, rfl⟩ := hcut
        have HQy := Lib.hid (And.intro hqy hly)
        clear hqy hly
        go_wp2_with (first | ((first | (go_at_call 29; refine (ofItem_any gy oy y.n _ (by simpa using cy)).mono ?_; rintro e w2 ⟨rfl, hw2⟩; subst w2) | (go_at_call 30; refine (HF.out _ (HA.out.drewN _)).mono ?_; rintro e w3 ⟨rfl, u', hA'⟩; have HA3 := Lib.hid hA'; clear hA'))))
        go_roundw
        case rel => exact ⟨[], B, _, _, _, _, _, u', _, _, rfl, (congrArg (fun n => Value.slice _ n _) HNB.out), (by have := HCA.out;  first | omega | (simp; omega) | simp), (by have := HNB.out; have := HQy.out.1; omega), HPA.out, HQy.out.2, HBA.out, (fun l hl => HBB.out l (by simp [hl])), by have := HLen.out; have := outOf_len y.n (aft none (some y)); simp at *; omega, ⟨nextOf_ge _ _ _ HNN.out.1, nextOf_le _ _ _ HNN.out.2 (by have := HBB.out y (by simp); omega)⟩, HA3.out, HKEY.out⟩
        case measure => simp [lenV] <;> omega
    | cons x A =>
      cases B with
      | nil =>
        obtain ⟨gx, ox, ex, hgx, _, _, hptx, htlx⟩ := hpa.uncons
        subst ex
        have HPTx := Lib.hid hptx
        have HTLx := Lib.hid htlx
        have cx : wr.cell? ⟨gx, ox, none⟩ = some (.int .i64 x.n) := (HPA.out.keep (HA.out.keeps 45 (by decide) (by decide)) (HA.out.keeps 58 (by decide) (by decide))).cell
        obtain ⟨hbx0, hbx1⟩ := HBA.out x (by simp)
        clear hptx htlx
        simp only [List.length_cons, List.length_nil] at hca hcb ⊢
        obtain ⟨na, hna⟩ : ∃ n, n = A.length := ⟨_, rfl⟩
        rw [← hna] at hca ⊢
        have HNA := Lib.hid hna
        have na1 : na ≤ 100000 := by have := HLen.out; have := HL.out; have := HN1.out; have := HN2.out; simp at *; omega
        clear hna
        have HKEY := Lib.hid (show (mg Ln.n It.n L1 L2).foldl apS (N0, false, []) = (mg Ln.n It.n A []).foldl apS (nextOf N x.n (aft (some x.r) none), b || gapOf (some x.r) none, L ++ outOf x.n (aft (some x.r) none)) from by
          have q := HMG.out
          rw [q, mg]
          rfl)
        have hll : L.length ≤ 100000 := by have := HLen.out; have := HL.out; have := HN1.out; have := HN2.out; simp at *; omega
        have HF := Lib.hid (fun (W : World) (hW : AccX V0 gv gg N u b L W) => apply1_any V0 gv gg N u b L x.n (some ⟨gx, ox, none⟩) none (some x.r) none W hW (.inr ⟨_, _, rfl⟩) HPTx.out (.inl ⟨rfl, rfl⟩) hll HNN.out.1 HNN.out.2 hbx0 (by omega))
        have HCA := Lib.hid hca
        have HCB := Lib.hid hcb
        clear hll
        go_upto_region 9 with (first | ((first | (go_at_call 22; refine (ofLine_any gx ox x.n _ (by simpa using cx)).mono ?_; rintro e w2 ⟨rfl, hw2⟩; subst w2))))
        try simp only [Act.put, List.setIfInBounds_toArray, List.set_cons_zero, List.set_cons_succ]
        go_cut [10, 0] from 48 to 51 (fun s1 s2 wx => s1 = .pointer (some ⟨gx, ox, none⟩) ∧ (∃ q c', s2 = .slice q na c' ∧ na ≤ c' ∧ Lns V0 q A) ∧ ∃ k, wx = wr.drewN k)
        case first =>
          by_cases hcap : ca = 1
          · go_quiet (fail)
            all_goals (try go_wp2_with fail)
            go_meet
            exact ⟨rfl, ⟨_, _, rfl, by have := HCA.out; omega, by obtain rfl : A = [] := List.length_eq_zero_iff.1 (by have := HNA.out; have := HCA.out; omega); exact Lns.nil _ _⟩, _, by first | rfl | rw [World.drewN_drewN]⟩
          · go_quiet (fail)
            all_goals (try go_wp2_with fail)
            go_meet
            exact ⟨rfl, ⟨_, _, rfl, by have := HCA.out; omega, HTLx.out⟩, _, by first | rfl | rw [World.drewN_drewN]⟩
        obtain ⟨rfl, ⟨qx, cx', rfl, hqx, hlx⟩, kx, rfl⟩ := hcut
        have HQx := Lib.hid (And.intro hqx hlx)
        clear hqx hlx
        go_wp2_with (first | ((first | (go_at_call 22; refine (ofLine_any gx ox x.n _ (by simpa using cx)).mono ?_; rintro e w2 ⟨rfl, hw2⟩; subst w2) | (go_at_call 30; refine (HF.out _ (HA.out.drewN _)).mono ?_; rintro e w3 ⟨rfl, u', hA'⟩; have HA3 := Lib.hid hA'; clear hA'))))
        go_roundw
        case rel => exact ⟨A, [], _, _, _, _, _, u', _, _, (congrArg (fun n => Value.slice _ n _) HNA.out), rfl, (by have := HNA.out; have := HQx.out.1; omega), (by have := HCB.out;  first | omega | (simp; omega) | simp), HQx.out.2, HPB.out, (fun l hl => HBA.out l (by simp [hl])), HBB.out, by have := HLen.out; have := outOf_len x.n (aft (some x.r) none); simp at *; omega, ⟨nextOf_ge _ _ _ HNN.out.1, nextOf_le _ _ _ HNN.out.2 (by have := HBA.out x (by simp); omega)⟩, HA3.out, HKEY.out⟩
        case measure => simp [lenV] <;> omega
      | cons y B =>
        obtain ⟨gx, ox, ex, hgx, _, _, hptx, htlx⟩ := hpa.uncons
        subst ex
        have HPTx := Lib.hid hptx
        have HTLx := Lib.hid htlx
        have cx : wr.cell? ⟨gx, ox, none⟩ = some (.int .i64 x.n) := (HPA.out.keep (HA.out.keeps 45 (by decide) (by decide)) (HA.out.keeps 58 (by decide) (by decide))).cell
        obtain ⟨hbx0, hbx1⟩ := HBA.out x (by simp)
        clear hptx htlx
        obtain ⟨gy, oy, ey, hgy, _, hpty, htly⟩ := hpb.uncons
        subst ey
        have HPTy := Lib.hid hpty
        have HTLy := Lib.hid htly
        have cy : wr.cell? ⟨gy, oy, none⟩ = some (.int .i64 y.n) := (HPB.out.keep (HA.out.keeps 45 (by decide) (by decide)) (HA.out.keeps 71 (by decide) (by decide)) (HA.out.keeps 58 (by decide) (by decide)) (HA.out.keeps 87 (by decide) (by decide))).cell
        obtain ⟨hby0, hby1⟩ := HBB.out y (by simp)
        clear hpty htly
        simp only [List.length_cons, List.length_nil] at hca hcb ⊢
        obtain ⟨na, hna⟩ : ∃ n, n = A.length := ⟨_, rfl⟩
        rw [← hna] at hca ⊢
        have HNA := Lib.hid hna
        have na1 : na ≤ 100000 := by have := HLen.out; have := HL.out; have := HN1.out; have := HN2.out; simp at *; omega
        clear hna
        obtain ⟨nb, hnb⟩ : ∃ n, n = B.length := ⟨_, rfl⟩
        rw [← hnb] at hcb ⊢
        have HNB := Lib.hid hnb
        have nb1 : nb ≤ 100000 := by have := HLen.out; have := HL.out; have := HN1.out; have := HN2.out; simp at *; omega
        clear hnb
        rcases Int.lt_trichotomy x.n y.n with hxy | hxy | hxy
        · skip
          have HKEY := Lib.hid (show (mg Ln.n It.n L1 L2).foldl apS (N0, false, []) = (mg Ln.n It.n A (y :: B)).foldl apS (nextOf N x.n (aft (some x.r) none), b || gapOf (some x.r) none, L ++ outOf x.n (aft (some x.r) none)) from by
            have q := HMG.out
            rw [q, mg, if_pos hxy]
            rfl)
          have q1 : (y.n == x.n) = false := beq_eq_false_iff_ne.2 (by omega)
          have hll : L.length ≤ 100000 := by have := HLen.out; have := HL.out; have := HN1.out; have := HN2.out; simp at *; omega
          have HF := Lib.hid (fun (W : World) (hW : AccX V0 gv gg N u b L W) => apply1_any V0 gv gg N u b L x.n (some ⟨gx, ox, none⟩) none (some x.r) none W hW (.inr ⟨_, _, rfl⟩) HPTx.out (.inl ⟨rfl, rfl⟩) hll HNN.out.1 HNN.out.2 hbx0 (by omega))
          have HCA := Lib.hid hca
          have HCB := Lib.hid hcb
          clear hll
          go_upto_region 9 with (first | ((first | (go_at_call 22; refine (ofLine_any gx ox x.n _ (by simpa using cx)).mono ?_; rintro e w2 ⟨rfl, hw2⟩; subst w2) | (go_at_call 29; refine (ofItem_any gy oy y.n _ (by simpa using cy)).mono ?_; rintro e w2 ⟨rfl, hw2⟩; subst w2))))
          try simp only [Act.put, List.setIfInBounds_toArray, List.set_cons_zero, List.set_cons_succ]
          go_cut [10, 0] from 48 to 51 (fun s1 s2 wx => s1 = .pointer (some ⟨gx, ox, none⟩) ∧ (∃ q c', s2 = .slice q na c' ∧ na ≤ c' ∧ Lns V0 q A) ∧ ∃ k, wx = wr.drewN k)
          case first =>
            by_cases hcap : ca = 1
            · go_quiet (fail)
              all_goals (try go_wp2_with fail)
              go_meet
              exact ⟨rfl, ⟨_, _, rfl, by have := HCA.out; omega, by obtain rfl : A = [] := List.length_eq_zero_iff.1 (by have := HNA.out; have := HCA.out; omega); exact Lns.nil _ _⟩, _, by first | rfl | rw [World.drewN_drewN]⟩
            · go_quiet (fail)
              all_goals (try go_wp2_with fail)
              go_meet
              exact ⟨rfl, ⟨_, _, rfl, by have := HCA.out; omega, HTLx.out⟩, _, by first | rfl | rw [World.drewN_drewN]⟩
          obtain ⟨rfl, ⟨qx, cx', rfl, hqx, hlx⟩, kx, rfl⟩ := hcut
          have HQx := Lib.hid (And.intro hqx hlx)
          clear hqx hlx
          go_wp2_with (first | ((first | (go_at_call 22; refine (ofLine_any gx ox x.n _ (by simpa using cx)).mono ?_; rintro e w2 ⟨rfl, hw2⟩; subst w2) | (go_at_call 29; refine (ofItem_any gy oy y.n _ (by simpa using cy)).mono ?_; rintro e w2 ⟨rfl, hw2⟩; subst w2) | (go_at_call 30; refine (HF.out _ (HA.out.drewN _)).mono ?_; rintro e w3 ⟨rfl, u', hA'⟩; have HA3 := Lib.hid hA'; clear hA'))))
          go_roundw
          case rel => exact ⟨A, (y :: B), _, _, _, _, _, u', _, _, (congrArg (fun n => Value.slice _ n _) HNA.out), (congrArg (fun n => Value.slice _ (n + 1) _) HNB.out), (by have := HNA.out; have := HQx.out.1; omega), (by have := HCB.out; have := HNB.out; first | omega | (simp; omega) | simp), HQx.out.2, HPB.out, (fun l hl => HBA.out l (by simp [hl])), HBB.out, by have := HLen.out; have := outOf_len x.n (aft (some x.r) none); simp at *; omega, ⟨nextOf_ge _ _ _ HNN.out.1, nextOf_le _ _ _ HNN.out.2 (by have := HBA.out x (by simp); omega)⟩, HA3.out, HKEY.out⟩
          case measure => simp [lenV] <;> omega
        · skip
          have HKEY := Lib.hid (show (mg Ln.n It.n L1 L2).foldl apS (N0, false, []) = (mg Ln.n It.n A B).foldl apS (nextOf N x.n (aft (some x.r) (some y)), b || gapOf (some x.r) (some y), L ++ outOf x.n (aft (some x.r) (some y))) from by
            have q := HMG.out
            rw [q, mg, if_neg (by omega), if_neg (by omega)]
            rfl)
          rw [← hxy] at cy
          clear hxy
          have hll : L.length ≤ 100000 := by have := HLen.out; have := HL.out; have := HN1.out; have := HN2.out; simp at *; omega
          have HF := Lib.hid (fun (W : World) (hW : AccX V0 gv gg N u b L W) => apply1_any V0 gv gg N u b L x.n (some ⟨gx, ox, none⟩) (some ⟨gy, oy, none⟩) (some x.r) (some y) W hW (.inr ⟨_, _, rfl⟩) HPTx.out HPTy.out hll HNN.out.1 HNN.out.2 hbx0 (by omega))
          have HCA := Lib.hid hca
          have HCB := Lib.hid hcb
          clear hll
          go_upto_region 9 with (first | ((first | (go_at_call 22; refine (ofLine_any gx ox x.n _ (by simpa using cx)).mono ?_; rintro e w2 ⟨rfl, hw2⟩; subst w2) | (go_at_call 29; refine (ofItem_any gy oy x.n _ (by simpa using cy)).mono ?_; rintro e w2 ⟨rfl, hw2⟩; subst w2))))
          try simp only [Act.put, List.setIfInBounds_toArray, List.set_cons_zero, List.set_cons_succ]
          go_cut [10, 0] from 48 to 51 (fun s1 s2 wx => s1 = .pointer (some ⟨gx, ox, none⟩) ∧ (∃ q c', s2 = .slice q na c' ∧ na ≤ c' ∧ Lns V0 q A) ∧ ∃ k, wx = wr.drewN k)
          case first =>
            by_cases hcap : ca = 1
            · go_quiet (fail)
              all_goals (try go_wp2_with fail)
              go_meet
              exact ⟨rfl, ⟨_, _, rfl, by have := HCA.out; omega, by obtain rfl : A = [] := List.length_eq_zero_iff.1 (by have := HNA.out; have := HCA.out; omega); exact Lns.nil _ _⟩, _, by first | rfl | rw [World.drewN_drewN]⟩
            · go_quiet (fail)
              all_goals (try go_wp2_with fail)
              go_meet
              exact ⟨rfl, ⟨_, _, rfl, by have := HCA.out; omega, HTLx.out⟩, _, by first | rfl | rw [World.drewN_drewN]⟩
          obtain ⟨rfl, ⟨qx, cx', rfl, hqx, hlx⟩, kx, rfl⟩ := hcut
          have HQx := Lib.hid (And.intro hqx hlx)
          clear hqx hlx
          go_upto_region 11 with (first | ((first | (go_at_call 22; refine (ofLine_any gx ox x.n _ (by simpa using cx)).mono ?_; rintro e w2 ⟨rfl, hw2⟩; subst w2) | (go_at_call 29; refine (ofItem_any gy oy x.n _ (by simpa using cy)).mono ?_; rintro e w2 ⟨rfl, hw2⟩; subst w2))))
          try simp only [Act.put, List.setIfInBounds_toArray, List.set_cons_zero, List.set_cons_succ]
          go_cut [11, 1] from 63 to 66 (fun s1 s2 wx => s1 = .pointer (some ⟨gy, oy, none⟩) ∧ (∃ q c', s2 = .slice q nb c' ∧ nb ≤ c' ∧ ITs V0 q B) ∧ ∃ k, wx = wr.drewN k)
          case first =>
            by_cases hcap : cb = 1
            · go_quiet (fail)
              all_goals (try go_wp2_with fail)
              go_meet
              exact ⟨rfl, ⟨_, _, rfl, by have := HCB.out; omega, by obtain rfl : B = [] := List.length_eq_zero_iff.1 (by have := HNB.out; have := HCB.out; omega); exact ITs.nil _ _⟩, _, by first | rfl | rw [World.drewN_drewN]⟩
            · go_quiet (fail)
              all_goals (try go_wp2_with fail)
              go_meet
              exact ⟨rfl, ⟨_, _, rfl, by have := HCB.out; omega, HTLy.out⟩, _, by first | rfl | rw [World.drewN_drewN]⟩
          obtain ⟨rfl, ⟨qy, cy', rfl, hqy, hly⟩, ky, rfl⟩ := hcut
          have HQy := Lib.hid (And.intro hqy hly)
          clear hqy hly
          go_wp2_with (first | ((first | (go_at_call 22; refine (ofLine_any gx ox x.n _ (by simpa using cx)).mono ?_; rintro e w2 ⟨rfl, hw2⟩; subst w2) | (go_at_call 29; refine (ofItem_any gy oy x.n _ (by simpa using cy)).mono ?_; rintro e w2 ⟨rfl, hw2⟩; subst w2) | (go_at_call 30; refine (HF.out _ (HA.out.drewN _)).mono ?_; rintro e w3 ⟨rfl, u', hA'⟩; have HA3 := Lib.hid hA'; clear hA'))))
          go_roundw
          case rel => exact ⟨A, B, _, _, _, _, _, u', _, _, (congrArg (fun n => Value.slice _ n _) HNA.out), (congrArg (fun n => Value.slice _ n _) HNB.out), (by have := HNA.out; have := HQx.out.1; omega), (by have := HNB.out; have := HQy.out.1; omega), HQx.out.2, HQy.out.2, (fun l hl => HBA.out l (by simp [hl])), (fun l hl => HBB.out l (by simp [hl])), by have := HLen.out; have := outOf_len x.n (aft (some x.r) (some y)); simp at *; omega, ⟨nextOf_ge _ _ _ HNN.out.1, nextOf_le _ _ _ HNN.out.2 (by have := HBA.out x (by simp); omega)⟩, HA3.out, HKEY.out⟩
          case measure => simp [lenV] <;> omega
        · skip
          have HKEY := Lib.hid (show (mg Ln.n It.n L1 L2).foldl apS (N0, false, []) = (mg Ln.n It.n (x :: A) B).foldl apS (nextOf N y.n (aft none (some y)), b || gapOf none (some y), L ++ outOf y.n (aft none (some y))) from by
            have q := HMG.out
            rw [q, mg, if_neg (by omega), if_pos hxy]
            rfl)
          have q1 : (x.n == y.n) = false := beq_eq_false_iff_ne.2 (by omega)
          have hll : L.length ≤ 100000 := by have := HLen.out; have := HL.out; have := HN1.out; have := HN2.out; simp at *; omega
          have HF := Lib.hid (fun (W : World) (hW : AccX V0 gv gg N u b L W) => apply1_any V0 gv gg N u b L y.n none (some ⟨gy, oy, none⟩) none (some y) W hW (.inl rfl) (.inl ⟨rfl, rfl⟩) HPTy.out hll HNN.out.1 HNN.out.2 hby0 (by omega))
          have HCA := Lib.hid hca
          have HCB := Lib.hid hcb
          clear hll
          go_upto_region 11 with (first | ((first | (go_at_call 22; refine (ofLine_any gx ox x.n _ (by simpa using cx)).mono ?_; rintro e w2 ⟨rfl, hw2⟩; subst w2) | (go_at_call 29; refine (ofItem_any gy oy y.n _ (by simpa using cy)).mono ?_; rintro e w2 ⟨rfl, hw2⟩; subst w2))))
          try simp only [Act.put, List.setIfInBounds_toArray, List.set_cons_zero, List.set_cons_succ]
          go_cut [11, 1] from 63 to 66 (fun s1 s2 wx => s1 = .pointer (some ⟨gy, oy, none⟩) ∧ (∃ q c', s2 = .slice q nb c' ∧ nb ≤ c' ∧ ITs V0 q B) ∧ ∃ k, wx = wr.drewN k)
          case first =>
            by_cases hcap : cb = 1
            · go_quiet (fail)
              all_goals (try go_wp2_with fail)
              go_meet
              exact ⟨rfl, ⟨_, _, rfl, by have := HCB.out; omega, by obtain rfl : B = [] := List.length_eq_zero_iff.1 (by have := HNB.out; have := HCB.out; omega); exact ITs.nil _ _⟩, _, by first | rfl | rw [World.drewN_drewN]⟩
            · go_quiet (fail)
              all_goals (try go_wp2_with fail)
              go_meet
              exact ⟨rfl, ⟨_, _, rfl, by have := HCB.out; omega, HTLy.out⟩, _, by first | rfl | rw [World.drewN_drewN]⟩
          obtain ⟨rfl, ⟨qy, cy', rfl, hqy, hly⟩, ky, rfl⟩ := hcut
          have HQy := Lib.hid (And.intro hqy hly)
          clear hqy hly
          go_wp2_with (first | ((first | (go_at_call 22; refine (ofLine_any gx ox x.n _ (by simpa using cx)).mono ?_; rintro e w2 ⟨rfl, hw2⟩; subst w2) | (go_at_call 29; refine (ofItem_any gy oy y.n _ (by simpa using cy)).mono ?_; rintro e w2 ⟨rfl, hw2⟩; subst w2) | (go_at_call 30; refine (HF.out _ (HA.out.drewN _)).mono ?_; rintro e w3 ⟨rfl, u', hA'⟩; have HA3 := Lib.hid hA'; clear hA'))))
          go_roundw
          case rel => exact ⟨(x :: A), B, _, _, _, _, _, u', _, _, (congrArg (fun n => Value.slice _ (n + 1) _) HNA.out), (congrArg (fun n => Value.slice _ n _) HNB.out), (by have := HCA.out; have := HNA.out; first | omega | (simp; omega) | simp), (by have := HNB.out; have := HQy.out.1; omega), HPA.out, HQy.out.2, HBA.out, (fun l hl => HBB.out l (by simp [hl])), by have := HLen.out; have := outOf_len y.n (aft none (some y)); simp at *; omega, ⟨nextOf_ge _ _ _ HNN.out.1, nextOf_le _ _ _ HNN.out.2 (by have := HBB.out y (by simp); omega)⟩, HA3.out, HKEY.out⟩
          case measure => simp [lenV] <;> omega
end Go.Proofs.Ytkonoojmhjinpaa
