/- Contracts: lineage's merge, at lines and lines. -/
import Derived.Test.YtkonoojmhjinpaaFe
set_option linter.all false
namespace Go.Proofs.Ytkonoojmhjinpaa
open Go.RowKit Go.Fen
set_option linter.unusedVariables false
set_option maxHeartbeats 4000000

/-- two lists with increasing numbers, merged -/
def mg {α β : Type} (f : α → Int) (g : β → Int) : List α → List β → List (Int × Option α × Option β)
  | [], [] => []
  | x :: A, [] => (f x, some x, none) :: mg f g A []
  | [], y :: B => (g y, none, some y) :: mg f g [] B
  | x :: A, y :: B => if f x < g y then (f x, some x, none) :: mg f g A (y :: B) else if g y < f x then (g y, none, some y) :: mg f g (x :: A) B else (f x, some x, some y) :: mg f g A B
termination_by A B => A.length + B.length
/-- the list of a value that is a slice: its length -/
def lenV : Value → Nat
  | .slice _ n _ => n
  | _ => 0
theorem Lns.nil (w : World) (a : Option Addr) : Lns w a [] := ⟨.inl rfl, by simp⟩
theorem Lns.uncons {w : World} {a : Option Addr} {x : Ln} {A : List Ln} (h : Lns w a (x :: A)) : ∃ g o, a = some ⟨g, o, none⟩ ∧ g < w.heap.size ∧ w.cell? ⟨g, o, none⟩ = some (.int .i64 x.n) ∧ w.cell? ⟨g, o + 1, none⟩ = some (rvv x.r) ∧ Pt w (some ⟨g, o + 1, none⟩) (some x.r) ∧ Lns w (some ⟨g, o + 2, none⟩) A := by
  rcases h.1 with h0 | ⟨g, o, ea, hg, hc, htag⟩
  · simp at h0
  · have hr := hc 0 x rfl
    have h0 : w.cell? ⟨g, o, none⟩ = some (.int .i64 x.n) := by have := hr 0 _ rfl; simpa using this
    have h1 : w.cell? ⟨g, o + 1, none⟩ = some (rvv x.r) := by have := hr 1 _ rfl; simpa using this
    obtain ⟨cs, fr, ht⟩ := htag
    refine ⟨g, o, ea, hg, h0, h1, .inr ⟨g, o + 1, x.r, rfl, rfl, hg, h1, h.2 x (by simp), cs, 45, fr, ht, .inl rfl⟩, .inr ⟨g, o + 2, rfl, hg, fun i y hy => ?_, cs, fr, ht⟩, fun l hl => h.2 l (by simp [hl])⟩
    have := hc (i + 1) y (by simpa using hy)
    rw [show o + 2 + i * 2 = o + (i + 1) * 2 by omega]
    exact this
theorem AccG.lns {V0 w : World} {gv : Nat} {t e : TypeId} {mk : Value → Array Value} {k n : Nat} {v : Value} {xs : List Value} {z : Array Value} {a : Option Addr} {L : List Ln} (hA : AccG V0 gv t mk e k v n xs w) (hr : Row V0 gv t z) (h1 : t ≠ 45) (h3 : t ≠ 58) (h : Lns V0 a L) : Lns w a L :=
  ⟨hA.lt hr h1 h.1, fun l hl => hA.rok hr h3 (h.2 l hl)⟩
theorem Lns.cell {w : World} {g o : Nat} {x : Ln} {A : List Ln} (h : Lns w (some ⟨g, o, none⟩) (x :: A)) : w.cell? ⟨g, o, none⟩ = some (.int .i64 x.n) := by
  obtain ⟨g', o', e, _, h0, _⟩ := h.uncons
  injection e with e
  injection e with e1 e2
  subst e1 e2
  exact h0
def keyI (i : It) : Int × Option Rv × Option Rv := (i.n, i.x, i.y)
def keyM (t : Int × Option Ln × Option Ln) : Int × Option Rv × Option Rv := (t.1, t.2.1.map (·.r), t.2.2.map (·.r))
set_option maxRecDepth 20000 in
theorem merge_any (V0 : World) (gv : Nat) (u0 : Value) (L1 L2 : List Ln) (a1 a2 : Option Addr) (c1 c2 : Nat) (w : World) (hV : gv < V0.heap.size) (hT : Row V0 gv 80 #[u0]) (hA : AccG V0 gv 80 mkR 87 3 u0 0 (([] : List It).flatMap itc) w) (h1 : Lns V0 a1 L1) (h2 : Lns V0 a2 L2) (hc1 : L1.length ≤ c1) (hc2 : L2.length ≤ c2) (hl1 : L1.length ≤ 1000) (hl2 : L2.length ≤ 1000) (hb1 : ∀ l ∈ L1, 0 ≤ l.n ∧ l.n < 1000000) (hb2 : ∀ l ∈ L2, 0 ≤ l.n ∧ l.n < 1000000) :
    Calls Try.prog 21 #[.slice a1 L1.length c1, .slice a2 L2.length c2, .func (.func 22) #[] #[], .func (.func 22) #[] #[], .func (.func 23) #[] #[.pointer (some ⟨gv, 0, none⟩)]] w fun e w' => e = .returned (.tuple #[]) ∧ ∃ (u : Value) (its : List It), AccG V0 gv 80 mkR 87 3 u its.length (its.flatMap itc) w' ∧ (∀ i ∈ its, IOk V0 i) ∧ its.map keyI = (mg Ln.n Ln.n L1 L2).map keyM := by
  have HA0 := Lib.hid hA
  have H1 := Lib.hid h1
  have H2 := Lib.hid h2
  have HB1 := Lib.hid hb1
  have HB2 := Lib.hid hb2
  have HT := Lib.hid hT
  have HV := Lib.hid hV
  have HL := Lib.hid (show L1.length ≤ c1 ∧ L2.length ≤ c2 ∧ L1.length ≤ 1000 ∧ L2.length ≤ 1000 from ⟨hc1, hc2, hl1, hl2⟩)
  obtain ⟨n1, hn1⟩ : ∃ n, n = L1.length := ⟨_, rfl⟩
  obtain ⟨n2, hn2⟩ : ∃ n, n = L2.length := ⟨_, rfl⟩
  rw [← hn1, ← hn2]
  have HN1 := Lib.hid hn1
  have HN2 := Lib.hid hn2
  clear hA h1 h2 hb1 hb2 hT hV hc1 hc2 hl1 hl2 hn1 hn2
  go_enter Try.func21, Try.ntmps21
  go_wp2_with fail
  go_loopw [0, 1] (fun sa sb wr => ∃ (A B : List Ln) (pa pb : Option Addr) (ca cb : Nat) (u : Value) (its : List It), sa = .slice pa A.length ca ∧ sb = .slice pb B.length cb ∧ A.length ≤ ca ∧ B.length ≤ cb ∧ Lns V0 pa A ∧ Lns V0 pb B ∧ (∀ l ∈ A, 0 ≤ l.n ∧ l.n < 1000000) ∧ (∀ l ∈ B, 0 ≤ l.n ∧ l.n < 1000000) ∧ its.length + A.length + B.length ≤ n1 + n2 ∧ AccG V0 gv 80 mkR 87 3 u its.length (its.flatMap itc) wr ∧ (∀ i ∈ its, IOk V0 i) ∧ its.map keyI ++ (mg Ln.n Ln.n A B).map keyM = (mg Ln.n Ln.n L1 L2).map keyM) (fun sa sb _ => lenV sa + lenV sb)
  case atStart => exact ⟨L1, L2, _, _, _, _, _, [], by rw [HN1.out], by rw [HN2.out], HL.out.1, HL.out.2.1, H1.out, H2.out, HB1.out, HB2.out, by rw [HN1.out, HN2.out]; simp, HA0.out, by simp, by simp⟩
  case round =>
    obtain ⟨A, B, pa, pb, ca, cb, u, its, rfl, rfl, hca, hcb, hpa, hpb, hba, hbb, hlen, hA, hok, hmg⟩ := hrel
    have HMG := Lib.hid hmg
    have HOK := Lib.hid hok
    have HA := Lib.hid hA
    have HLen := Lib.hid hlen
    have HPA := Lib.hid hpa
    have HPB := Lib.hid hpb
    have HBA := Lib.hid hba
    have HBB := Lib.hid hbb
    clear hmg hok hA hlen hba hbb
    cases A with
    | nil =>
      cases B with
      | nil =>
        have HKEY := Lib.hid (show its.map keyI = (mg Ln.n Ln.n L1 L2).map keyM from by have q := HMG.out; rw [mg] at q; simpa using q)
        simp only [List.length_nil] at hca hcb ⊢
        go_wp2_with fail
        first | go_end0 | ((try simp only [Exit.inBlock, Exit.then]); refine bodyPost_ret (results_none rfl _ _ _) rfl ?_)
        exact ⟨rfl, u, its, HA.out, HOK.out, HKEY.out⟩
      | cons y B =>
        obtain ⟨gy, oy, ey, hgy, _, _, hpty, htly⟩ := hpb.uncons
        subst ey
        have HPTy := Lib.hid hpty
        have HTLy := Lib.hid htly
        have cy : wr.cell? ⟨gy, oy, none⟩ = some (.int .i64 y.n) := (HA.out.lns HT.out (by decide) (by decide) HPB.out).cell
        have hby := HBB.out y (by simp)
        obtain ⟨hby0, hby1⟩ := hby
        clear hpty htly
        simp only [List.length_cons, List.length_nil] at hca hcb ⊢
        obtain ⟨nb, hnb⟩ : ∃ n, n = B.length := ⟨_, rfl⟩
        rw [← hnb] at hcb ⊢
        have HNB := Lib.hid hnb
        have nb1 : nb ≤ 100000 := by have := HLen.out; have := HL.out; have := HN1.out; have := HN2.out; simp at *; omega
        clear hnb
        have HIO := Lib.hid (show ∀ i ∈ its ++ [It.mk y.n none (some ⟨gy, oy + 1, none⟩) none (some y.r)], IOk V0 i from fun i hi => by
          rcases List.mem_append.1 hi with q | q
          · exact HOK.out i q
          · rw [List.mem_singleton.1 q]; exact ⟨(.inl ⟨rfl, rfl⟩), HPTy.out⟩)
        have HKEY := Lib.hid (show (its ++ [It.mk y.n none (some ⟨gy, oy + 1, none⟩) none (some y.r)]).map keyI ++ (mg Ln.n Ln.n [] B).map keyM = (mg Ln.n Ln.n L1 L2).map keyM from by
          have q := HMG.out
          rw [mg] at q
          simpa [keyI, keyM] using q)
        have HF := Lib.hid (feed1_any V0 gv u its y.n none (some ⟨gy, oy, none⟩) none (some y.r))
        have hlit : its.length ≤ 100000 := by have := HLen.out; have := HL.out; have := HN1.out; have := HN2.out; simp at *; omega
        have HLIT := Lib.hid hlit
        have HCA := Lib.hid hca
        have HCB := Lib.hid hcb
        clear hlit
        go_upto_region 11 with (first | ((go_at_call 22; first | (refine (ofLine_any gy oy y.n _ (by simpa using cy)).mono ?_; rintro e w2 ⟨rfl, hw2⟩; subst w2))))
        try simp only [Act.put, List.setIfInBounds_toArray, List.set_cons_zero, List.set_cons_succ]
        go_cut [11, 1] from 63 to 66 (fun s1 s2 wx => s1 = .pointer (some ⟨gy, oy, none⟩) ∧ (∃ q c', s2 = .slice q nb c' ∧ nb ≤ c' ∧ Lns V0 q B) ∧ ∃ k, wx = wr.drewN k)
        case first =>
          by_cases hcap : cb = 1
          · go_quiet (fail)
            all_goals (try go_wp2_with fail)
            go_meet
            exact ⟨rfl, ⟨_, _, rfl, by have := HCB.out; omega, by obtain rfl : B = [] := List.length_eq_zero_iff.1 (by have := HNB.out; have := HCB.out; omega); exact Lns.nil _ _⟩, _, by first | rfl | rw [World.drewN_drewN]⟩
          · go_quiet (fail)
            all_goals (try go_wp2_with fail)
            go_meet
            exact ⟨rfl, ⟨_, _, rfl, by have := HCB.out; omega, HTLy.out⟩, _, by first | rfl | rw [World.drewN_drewN]⟩
        obtain ⟨rfl, ⟨qy, cy', rfl, hqy, hly⟩, ky, rfl⟩ := hcut
        have HQy := Lib.hid (And.intro hqy hly)
        clear hqy hly
        go_wp2_with (first | ((first | (go_at_call 22; first | (refine (ofLine_any gy oy y.n _ (by simpa using cy)).mono ?_; rintro e w2 ⟨rfl, hw2⟩; subst w2)) | (go_at_call 23; refine (HF.out _ HV.out (HA.out.drewN _) (.inl rfl) (.inr ⟨_, _, rfl⟩) HLIT.out).mono ?_; rintro e w3 ⟨rfl, u', hA'⟩; have HA3 := Lib.hid hA'; clear hA'))))
        go_roundw
        case rel => exact ⟨[], B, _, _, _, _, _, its ++ [(It.mk y.n none (some ⟨gy, oy + 1, none⟩) none (some y.r))], rfl, (congrArg (fun n => Value.slice _ n _) HNB.out), (by have := HCA.out;  first | omega | (simp; omega) | simp), (by have := HNB.out; have := HQy.out.1; omega), HPA.out, HQy.out.2, HBA.out, (fun l hl => HBB.out l (by simp [hl])), by have := HLen.out; simp at *; omega, HA3.out, HIO.out, HKEY.out⟩
        case measure => simp [lenV] <;> omega
    | cons x A =>
      cases B with
      | nil =>
        obtain ⟨gx, ox, ex, hgx, _, _, hptx, htlx⟩ := hpa.uncons
        subst ex
        have HPTx := Lib.hid hptx
        have HTLx := Lib.hid htlx
        have cx : wr.cell? ⟨gx, ox, none⟩ = some (.int .i64 x.n) := (HA.out.lns HT.out (by decide) (by decide) HPA.out).cell
        have hbx := HBA.out x (by simp)
        obtain ⟨hbx0, hbx1⟩ := hbx
        clear hptx htlx
        simp only [List.length_cons, List.length_nil] at hca hcb ⊢
        obtain ⟨na, hna⟩ : ∃ n, n = A.length := ⟨_, rfl⟩
        rw [← hna] at hca ⊢
        have HNA := Lib.hid hna
        have na1 : na ≤ 100000 := by have := HLen.out; have := HL.out; have := HN1.out; have := HN2.out; simp at *; omega
        clear hna
        have HIO := Lib.hid (show ∀ i ∈ its ++ [It.mk x.n (some ⟨gx, ox + 1, none⟩) none (some x.r) none], IOk V0 i from fun i hi => by
          rcases List.mem_append.1 hi with q | q
          · exact HOK.out i q
          · rw [List.mem_singleton.1 q]; exact ⟨HPTx.out, (.inl ⟨rfl, rfl⟩)⟩)
        have HKEY := Lib.hid (show (its ++ [It.mk x.n (some ⟨gx, ox + 1, none⟩) none (some x.r) none]).map keyI ++ (mg Ln.n Ln.n A []).map keyM = (mg Ln.n Ln.n L1 L2).map keyM from by
          have q := HMG.out
          rw [mg] at q
          simpa [keyI, keyM] using q)
        have HF := Lib.hid (feed1_any V0 gv u its x.n (some ⟨gx, ox, none⟩) none (some x.r) none)
        have hlit : its.length ≤ 100000 := by have := HLen.out; have := HL.out; have := HN1.out; have := HN2.out; simp at *; omega
        have HLIT := Lib.hid hlit
        have HCA := Lib.hid hca
        have HCB := Lib.hid hcb
        clear hlit
        go_upto_region 9 with (first | ((go_at_call 22; first | (refine (ofLine_any gx ox x.n _ (by simpa using cx)).mono ?_; rintro e w2 ⟨rfl, hw2⟩; subst w2))))
        try simp only [Act.put, List.setIfInBounds_toArray, List.set_cons_zero, List.set_cons_succ]
        go_cut [10, 0] from 48 to 51 (fun s1 s2 wx => s1 = .pointer (some ⟨gx, ox, none⟩) ∧ (∃ q c', s2 = .slice q na c' ∧ na ≤ c' ∧ Lns V0 q A) ∧ ∃ k, wx = wr.drewN k)
        case first =>
          by_cases hcap : ca = 1
          · go_quiet (fail)
            all_goals (try go_wp2_with fail)
            go_meet
            exact ⟨rfl, ⟨_, _, rfl, by have := HCA.out; omega, by obtain rfl : A = [] := List.length_eq_zero_iff.1 (by have := HNA.out; have := HCA.out; omega); exact Lns.nil _ _⟩, _, by first | rfl | rw [World.drewN_drewN]⟩
          · go_quiet (fail)
            all_goals (try go_wp2_with fail)
            go_meet
            exact ⟨rfl, ⟨_, _, rfl, by have := HCA.out; omega, HTLx.out⟩, _, by first | rfl | rw [World.drewN_drewN]⟩
        obtain ⟨rfl, ⟨qx, cx', rfl, hqx, hlx⟩, kx, rfl⟩ := hcut
        have HQx := Lib.hid (And.intro hqx hlx)
        clear hqx hlx
        go_wp2_with (first | ((first | (go_at_call 22; first | (refine (ofLine_any gx ox x.n _ (by simpa using cx)).mono ?_; rintro e w2 ⟨rfl, hw2⟩; subst w2)) | (go_at_call 23; refine (HF.out _ HV.out (HA.out.drewN _) (.inr ⟨_, _, rfl⟩) (.inl rfl) HLIT.out).mono ?_; rintro e w3 ⟨rfl, u', hA'⟩; have HA3 := Lib.hid hA'; clear hA'))))
        go_roundw
        case rel => exact ⟨A, [], _, _, _, _, _, its ++ [(It.mk x.n (some ⟨gx, ox + 1, none⟩) none (some x.r) none)], (congrArg (fun n => Value.slice _ n _) HNA.out), rfl, (by have := HNA.out; have := HQx.out.1; omega), (by have := HCB.out;  first | omega | (simp; omega) | simp), HQx.out.2, HPB.out, (fun l hl => HBA.out l (by simp [hl])), HBB.out, by have := HLen.out; simp at *; omega, HA3.out, HIO.out, HKEY.out⟩
        case measure => simp [lenV] <;> omega
      | cons y B =>
        obtain ⟨gx, ox, ex, hgx, _, _, hptx, htlx⟩ := hpa.uncons
        subst ex
        have HPTx := Lib.hid hptx
        have HTLx := Lib.hid htlx
        have cx : wr.cell? ⟨gx, ox, none⟩ = some (.int .i64 x.n) := (HA.out.lns HT.out (by decide) (by decide) HPA.out).cell
        have hbx := HBA.out x (by simp)
        obtain ⟨hbx0, hbx1⟩ := hbx
        clear hptx htlx
        obtain ⟨gy, oy, ey, hgy, _, _, hpty, htly⟩ := hpb.uncons
        subst ey
        have HPTy := Lib.hid hpty
        have HTLy := Lib.hid htly
        have cy : wr.cell? ⟨gy, oy, none⟩ = some (.int .i64 y.n) := (HA.out.lns HT.out (by decide) (by decide) HPB.out).cell
        have hby := HBB.out y (by simp)
        obtain ⟨hby0, hby1⟩ := hby
        clear hpty htly
        simp only [List.length_cons, List.length_nil] at hca hcb ⊢
        obtain ⟨na, hna⟩ : ∃ n, n = A.length := ⟨_, rfl⟩
        rw [← hna] at hca ⊢
        have HNA := Lib.hid hna
        have na1 : na ≤ 100000 := by have := HLen.out; have := HL.out; have := HN1.out; have := HN2.out; simp at *; omega
        clear hna
        obtain ⟨nb, hnb⟩ : ∃ n, n = B.length := ⟨_, rfl⟩
        rw [← hnb] at hcb ⊢
        have HNB := Lib.hid hnb
        have nb1 : nb ≤ 100000 := by have := HLen.out; have := HL.out; have := HN1.out; have := HN2.out; simp at *; omega
        clear hnb
        rcases Int.lt_trichotomy x.n y.n with hxy | hxy | hxy
        · skip
          have HIO := Lib.hid (show ∀ i ∈ its ++ [It.mk x.n (some ⟨gx, ox + 1, none⟩) none (some x.r) none], IOk V0 i from fun i hi => by
            rcases List.mem_append.1 hi with q | q
            · exact HOK.out i q
            · rw [List.mem_singleton.1 q]; exact ⟨HPTx.out, (.inl ⟨rfl, rfl⟩)⟩)
          have HKEY := Lib.hid (show (its ++ [It.mk x.n (some ⟨gx, ox + 1, none⟩) none (some x.r) none]).map keyI ++ (mg Ln.n Ln.n A (y :: B)).map keyM = (mg Ln.n Ln.n L1 L2).map keyM from by
            have q := HMG.out
            rw [mg, if_pos hxy] at q
            simpa [keyI, keyM] using q)
          have q1 : (y.n == x.n) = false := beq_eq_false_iff_ne.2 (by omega)
          have HF := Lib.hid (feed1_any V0 gv u its x.n (some ⟨gx, ox, none⟩) none (some x.r) none)
          have hlit : its.length ≤ 100000 := by have := HLen.out; have := HL.out; have := HN1.out; have := HN2.out; simp at *; omega
          have HLIT := Lib.hid hlit
          have HCA := Lib.hid hca
          have HCB := Lib.hid hcb
          clear hlit
          go_upto_region 9 with (first | ((go_at_call 22; first | (refine (ofLine_any gx ox x.n _ (by simpa using cx)).mono ?_; rintro e w2 ⟨rfl, hw2⟩; subst w2) | (refine (ofLine_any gy oy y.n _ (by simpa using cy)).mono ?_; rintro e w2 ⟨rfl, hw2⟩; subst w2))))
          try simp only [Act.put, List.setIfInBounds_toArray, List.set_cons_zero, List.set_cons_succ]
          go_cut [10, 0] from 48 to 51 (fun s1 s2 wx => s1 = .pointer (some ⟨gx, ox, none⟩) ∧ (∃ q c', s2 = .slice q na c' ∧ na ≤ c' ∧ Lns V0 q A) ∧ ∃ k, wx = wr.drewN k)
          case first =>
            by_cases hcap : ca = 1
            · go_quiet (fail)
              all_goals (try go_wp2_with fail)
              go_meet
              exact ⟨rfl, ⟨_, _, rfl, by have := HCA.out; omega, by obtain rfl : A = [] := List.length_eq_zero_iff.1 (by have := HNA.out; have := HCA.out; omega); exact Lns.nil _ _⟩, _, by first | rfl | rw [World.drewN_drewN]⟩
            · go_quiet (fail)
              all_goals (try go_wp2_with fail)
              go_meet
              exact ⟨rfl, ⟨_, _, rfl, by have := HCA.out; omega, HTLx.out⟩, _, by first | rfl | rw [World.drewN_drewN]⟩
          obtain ⟨rfl, ⟨qx, cx', rfl, hqx, hlx⟩, kx, rfl⟩ := hcut
          have HQx := Lib.hid (And.intro hqx hlx)
          clear hqx hlx
          go_wp2_with (first | ((first | (go_at_call 22; first | (refine (ofLine_any gx ox x.n _ (by simpa using cx)).mono ?_; rintro e w2 ⟨rfl, hw2⟩; subst w2) | (refine (ofLine_any gy oy y.n _ (by simpa using cy)).mono ?_; rintro e w2 ⟨rfl, hw2⟩; subst w2)) | (go_at_call 23; refine (HF.out _ HV.out (HA.out.drewN _) (.inr ⟨_, _, rfl⟩) (.inl rfl) HLIT.out).mono ?_; rintro e w3 ⟨rfl, u', hA'⟩; have HA3 := Lib.hid hA'; clear hA'))))
          go_roundw
          case rel => exact ⟨A, (y :: B), _, _, _, _, _, its ++ [(It.mk x.n (some ⟨gx, ox + 1, none⟩) none (some x.r) none)], (congrArg (fun n => Value.slice _ n _) HNA.out), (congrArg (fun n => Value.slice _ (n + 1) _) HNB.out), (by have := HNA.out; have := HQx.out.1; omega), (by have := HCB.out; have := HNB.out; first | omega | (simp; omega) | simp), HQx.out.2, HPB.out, (fun l hl => HBA.out l (by simp [hl])), HBB.out, by have := HLen.out; simp at *; omega, HA3.out, HIO.out, HKEY.out⟩
          case measure => simp [lenV] <;> omega
        · skip
          have HIO := Lib.hid (show ∀ i ∈ its ++ [It.mk x.n (some ⟨gx, ox + 1, none⟩) (some ⟨gy, oy + 1, none⟩) (some x.r) (some y.r)], IOk V0 i from fun i hi => by
            rcases List.mem_append.1 hi with q | q
            · exact HOK.out i q
            · rw [List.mem_singleton.1 q]; exact ⟨HPTx.out, HPTy.out⟩)
          have HKEY := Lib.hid (show (its ++ [It.mk x.n (some ⟨gx, ox + 1, none⟩) (some ⟨gy, oy + 1, none⟩) (some x.r) (some y.r)]).map keyI ++ (mg Ln.n Ln.n A B).map keyM = (mg Ln.n Ln.n L1 L2).map keyM from by
            have q := HMG.out
            rw [mg, if_neg (by omega), if_neg (by omega)] at q
            simpa [keyI, keyM] using q)
          rw [← hxy] at cy
          clear hxy
          have HF := Lib.hid (feed1_any V0 gv u its x.n (some ⟨gx, ox, none⟩) (some ⟨gy, oy, none⟩) (some x.r) (some y.r))
          have hlit : its.length ≤ 100000 := by have := HLen.out; have := HL.out; have := HN1.out; have := HN2.out; simp at *; omega
          have HLIT := Lib.hid hlit
          have HCA := Lib.hid hca
          have HCB := Lib.hid hcb
          clear hlit
          go_upto_region 9 with (first | ((go_at_call 22; first | (refine (ofLine_any gx ox x.n _ (by simpa using cx)).mono ?_; rintro e w2 ⟨rfl, hw2⟩; subst w2) | (refine (ofLine_any gy oy x.n _ (by simpa using cy)).mono ?_; rintro e w2 ⟨rfl, hw2⟩; subst w2))))
          try simp only [Act.put, List.setIfInBounds_toArray, List.set_cons_zero, List.set_cons_succ]
          go_cut [10, 0] from 48 to 51 (fun s1 s2 wx => s1 = .pointer (some ⟨gx, ox, none⟩) ∧ (∃ q c', s2 = .slice q na c' ∧ na ≤ c' ∧ Lns V0 q A) ∧ ∃ k, wx = wr.drewN k)
          case first =>
            by_cases hcap : ca = 1
            · go_quiet (fail)
              all_goals (try go_wp2_with fail)
              go_meet
              exact ⟨rfl, ⟨_, _, rfl, by have := HCA.out; omega, by obtain rfl : A = [] := List.length_eq_zero_iff.1 (by have := HNA.out; have := HCA.out; omega); exact Lns.nil _ _⟩, _, by first | rfl | rw [World.drewN_drewN]⟩
            · go_quiet (fail)
              all_goals (try go_wp2_with fail)
              go_meet
              exact ⟨rfl, ⟨_, _, rfl, by have := HCA.out; omega, HTLx.out⟩, _, by first | rfl | rw [World.drewN_drewN]⟩
          obtain ⟨rfl, ⟨qx, cx', rfl, hqx, hlx⟩, kx, rfl⟩ := hcut
          have HQx := Lib.hid (And.intro hqx hlx)
          clear hqx hlx
          go_upto_region 11 with (first | ((go_at_call 22; first | (refine (ofLine_any gx ox x.n _ (by simpa using cx)).mono ?_; rintro e w2 ⟨rfl, hw2⟩; subst w2) | (refine (ofLine_any gy oy x.n _ (by simpa using cy)).mono ?_; rintro e w2 ⟨rfl, hw2⟩; subst w2))))
          try simp only [Act.put, List.setIfInBounds_toArray, List.set_cons_zero, List.set_cons_succ]
          go_cut [11, 1] from 63 to 66 (fun s1 s2 wx => s1 = .pointer (some ⟨gy, oy, none⟩) ∧ (∃ q c', s2 = .slice q nb c' ∧ nb ≤ c' ∧ Lns V0 q B) ∧ ∃ k, wx = wr.drewN k)
          case first =>
            by_cases hcap : cb = 1
            · go_quiet (fail)
              all_goals (try go_wp2_with fail)
              go_meet
              exact ⟨rfl, ⟨_, _, rfl, by have := HCB.out; omega, by obtain rfl : B = [] := List.length_eq_zero_iff.1 (by have := HNB.out; have := HCB.out; omega); exact Lns.nil _ _⟩, _, by first | rfl | rw [World.drewN_drewN]⟩
            · go_quiet (fail)
              all_goals (try go_wp2_with fail)
              go_meet
              exact ⟨rfl, ⟨_, _, rfl, by have := HCB.out; omega, HTLy.out⟩, _, by first | rfl | rw [World.drewN_drewN]⟩
          obtain ⟨rfl, ⟨qy, cy', rfl, hqy, hly⟩, ky, rfl⟩ := hcut
          have HQy := Lib.hid (And.intro hqy hly)
          clear hqy hly
          go_wp2_with (first | ((first | (go_at_call 22; first | (refine (ofLine_any gx ox x.n _ (by simpa using cx)).mono ?_; rintro e w2 ⟨rfl, hw2⟩; subst w2) | (refine (ofLine_any gy oy x.n _ (by simpa using cy)).mono ?_; rintro e w2 ⟨rfl, hw2⟩; subst w2)) | (go_at_call 23; refine (HF.out _ HV.out (HA.out.drewN _) (.inr ⟨_, _, rfl⟩) (.inr ⟨_, _, rfl⟩) HLIT.out).mono ?_; rintro e w3 ⟨rfl, u', hA'⟩; have HA3 := Lib.hid hA'; clear hA'))))
          go_roundw
          case rel => exact ⟨A, B, _, _, _, _, _, its ++ [(It.mk x.n (some ⟨gx, ox + 1, none⟩) (some ⟨gy, oy + 1, none⟩) (some x.r) (some y.r))], (congrArg (fun n => Value.slice _ n _) HNA.out), (congrArg (fun n => Value.slice _ n _) HNB.out), (by have := HNA.out; have := HQx.out.1; omega), (by have := HNB.out; have := HQy.out.1; omega), HQx.out.2, HQy.out.2, (fun l hl => HBA.out l (by simp [hl])), (fun l hl => HBB.out l (by simp [hl])), by have := HLen.out; simp at *; omega, HA3.out, HIO.out, HKEY.out⟩
          case measure => simp [lenV] <;> omega
        · skip
          have HIO := Lib.hid (show ∀ i ∈ its ++ [It.mk y.n none (some ⟨gy, oy + 1, none⟩) none (some y.r)], IOk V0 i from fun i hi => by
            rcases List.mem_append.1 hi with q | q
            · exact HOK.out i q
            · rw [List.mem_singleton.1 q]; exact ⟨(.inl ⟨rfl, rfl⟩), HPTy.out⟩)
          have HKEY := Lib.hid (show (its ++ [It.mk y.n none (some ⟨gy, oy + 1, none⟩) none (some y.r)]).map keyI ++ (mg Ln.n Ln.n (x :: A) B).map keyM = (mg Ln.n Ln.n L1 L2).map keyM from by
            have q := HMG.out
            rw [mg, if_neg (by omega), if_pos hxy] at q
            simpa [keyI, keyM] using q)
          have q1 : (x.n == y.n) = false := beq_eq_false_iff_ne.2 (by omega)
          have HF := Lib.hid (feed1_any V0 gv u its y.n none (some ⟨gy, oy, none⟩) none (some y.r))
          have hlit : its.length ≤ 100000 := by have := HLen.out; have := HL.out; have := HN1.out; have := HN2.out; simp at *; omega
          have HLIT := Lib.hid hlit
          have HCA := Lib.hid hca
          have HCB := Lib.hid hcb
          clear hlit
          go_upto_region 11 with (first | ((go_at_call 22; first | (refine (ofLine_any gx ox x.n _ (by simpa using cx)).mono ?_; rintro e w2 ⟨rfl, hw2⟩; subst w2) | (refine (ofLine_any gy oy y.n _ (by simpa using cy)).mono ?_; rintro e w2 ⟨rfl, hw2⟩; subst w2))))
          try simp only [Act.put, List.setIfInBounds_toArray, List.set_cons_zero, List.set_cons_succ]
          go_cut [11, 1] from 63 to 66 (fun s1 s2 wx => s1 = .pointer (some ⟨gy, oy, none⟩) ∧ (∃ q c', s2 = .slice q nb c' ∧ nb ≤ c' ∧ Lns V0 q B) ∧ ∃ k, wx = wr.drewN k)
          case first =>
            by_cases hcap : cb = 1
            · go_quiet (fail)
              all_goals (try go_wp2_with fail)
              go_meet
              exact ⟨rfl, ⟨_, _, rfl, by have := HCB.out; omega, by obtain rfl : B = [] := List.length_eq_zero_iff.1 (by have := HNB.out; have := HCB.out; omega); exact Lns.nil _ _⟩, _, by first | rfl | rw [World.drewN_drewN]⟩
            · go_quiet (fail)
              all_goals (try go_wp2_with fail)
              go_meet
              exact ⟨rfl, ⟨_, _, rfl, by have := HCB.out; omega, HTLy.out⟩, _, by first | rfl | rw [World.drewN_drewN]⟩
          obtain ⟨rfl, ⟨qy, cy', rfl, hqy, hly⟩, ky, rfl⟩ := hcut
          have HQy := Lib.hid (And.intro hqy hly)
          clear hqy hly
          go_wp2_with (first | ((first | (go_at_call 22; first | (refine (ofLine_any gx ox x.n _ (by simpa using cx)).mono ?_; rintro e w2 ⟨rfl, hw2⟩; subst w2) | (refine (ofLine_any gy oy y.n _ (by simpa using cy)).mono ?_; rintro e w2 ⟨rfl, hw2⟩; subst w2)) | (go_at_call 23; refine (HF.out _ HV.out (HA.out.drewN _) (.inl rfl) (.inr ⟨_, _, rfl⟩) HLIT.out).mono ?_; rintro e w3 ⟨rfl, u', hA'⟩; have HA3 := Lib.hid hA'; clear hA'))))
          go_roundw
          case rel => exact ⟨(x :: A), B, _, _, _, _, _, its ++ [(It.mk y.n none (some ⟨gy, oy + 1, none⟩) none (some y.r))], (congrArg (fun n => Value.slice _ (n + 1) _) HNA.out), (congrArg (fun n => Value.slice _ n _) HNB.out), (by have := HCA.out; have := HNA.out; first | omega | (simp; omega) | simp), (by have := HNB.out; have := HQy.out.1; omega), HPA.out, HQy.out.2, HBA.out, (fun l hl => HBB.out l (by simp [hl])), by have := HLen.out; simp at *; omega, HA3.out, HIO.out, HKEY.out⟩
          case measure => simp [lenV] <;> omega
end Go.Proofs.Ytkonoojmhjinpaa
