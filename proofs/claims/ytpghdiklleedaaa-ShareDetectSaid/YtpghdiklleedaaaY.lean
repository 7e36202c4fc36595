/- The walk of ShareDetect. -/
import Derived.Test.YtpghdiklleedaaaCp
import Derived.Test.YtpghdiklleedaaaU
set_option linter.all false
namespace Go.Proofs.Ytpghdiklleedaaa
open Go.RowKit Go.Fen Gf
set_option maxHeartbeats 400000

theorem Try.n51 : (Try.prog.info? 51).map (·.size) = some 3 := by kernel_rfl
theorem dat_set (M : List Shr) (k : Nat) (t : Shr) : dat (M.set k t) = (dat M).set k (t.x, t.b) := by simp [dat, List.map_set]
theorem getD_set_shr (M : List Shr) (k j : Nat) (t : Shr) (hk : k < M.length) : (M.set k t).getD j zs = if k = j then t else M.getD j zs := by
  simp only [List.getD, List.getElem?_set]
  split
  · rename_i e; subst e; simp [hk]
  · rfl
theorem bl_set {M : List Shr} {k n : Nat} {t : Shr} (hk : k < M.length) (h : ∀ j, j < M.length → (M.getD j zs).b.length ≤ n) (ht : t.b.length ≤ n) : ∀ u ∈ M.set k t, u.b.length ≤ n := by
  intro u hu
  obtain ⟨j, hj, e⟩ := List.getElem_of_mem hu
  rw [List.length_set] at hj
  have e2 : u = (M.set k t).getD j zs := by simp [List.getD, hj, ← e]
  rw [e2, getD_set_shr _ _ _ _ hk]
  split
  · exact ht
  · exact h j hj
theorem sv_set {M : List Shr} {k : Nat} {t : Shr} {w : World} (hk : k < M.length) (h : ∀ j, j < M.length → SV w (M.getD j zs).v (M.getD j zs).b) (ht : SV w t.v t.b) : ∀ j, j < (M.set k t).length → SV w ((M.set k t).getD j zs).v ((M.set k t).getD j zs).b := by
  intro j hj
  rw [List.length_set] at hj
  rw [getD_set_shr _ _ _ _ hk]
  split
  · exact ht
  · exact h j hj

theorem bufB_mk {B n : Nat} {v : Value} {l : List (BitVec 8)} {W0 w : World} (hl : l.length = n) (h : w.ownsRow B 5 1 v n (bvals l)) (hb : Below B W0 w) (hB : B ≤ w.heap.size) : BufB B v l W0 w := ⟨by rw [hl]; exact h, hb, hB⟩
theorem step_copyB2 {ops : Array Oper} {o : Oper} {a : Act} {K : Act → World → Prop} {Q : Exit → Act → World → Prop} {E : Prop} (hgd : o.guard = none) (s x : Operand) (ho : o.op = .call { callee := .builtin .append, args := #[s, x], argTypes := #[27, 27] })
    (B : Nat) (W0 w1 : World) (g0 : Nat) (hr : Row w1 g0 5 #[]) (hBg : B ≤ g0) (hbel : Below B W0 w1) (ax : Option Addr) (l : List (BitVec 8)) (c n : Nat) (hn : n = l.length) (hb : Bs w1 ax l) (hpos : 0 < n) (hlen : n ≤ 1000000)
    (hs : a.eval s = .slice (some ⟨g0, 0, none⟩) 0 0) (hx : a.eval x = .slice ax n c)
    (h : ∀ g cap w', BufB B (.slice (some ⟨g, 0, none⟩) n cap) l W0 w' → w1.grownBy w' (some g0) → K (a.put o.dst (.slice (some ⟨g, 0, none⟩) n cap)) w') : if Region.wanted o (yielded ops a.tmps) = true then Oper.wp Try.prog o a w1 K Q else E := by
  subst hn
  obtain ⟨i, hi, hzz⟩ := Option.map_eq_some_iff.1 Try.info5
  simp only [Prod.mk.injEq] at hzz
  rcases hb with h0 | ⟨gx, ox, rfl, hc⟩
  · rw [h0] at hpos; simp at hpos
  have hBs : B ≤ w1.heap.size := Nat.le_trans hBg (Nat.le_of_lt hr.lt)
  have hown0 : w1.ownsRow B 5 1 (.slice (some ⟨g0, 0, none⟩) 0 0) 0 [] := ⟨by simp, .inr ⟨g0, 0, #[], rfl, hBg, hr, Nat.le_refl _, by decide, rfl, rfl⟩⟩
  refine step_append_lies (P := Try.prog) w1 hgd s x 27 ho B 5 i _ 1 1 Try.underlying27 hi hzz.1 hzz.2.1 hzz.2.2 rfl (by decide) _ 0 [] hs hown0
    ⟨gx, ox, none⟩ l.length c (bvals l) hx (by simp [bvals]) (fun j u hj => by
      have hj' : j < l.length := by
        by_cases h : j < l.length
        · exact h
        · rw [List.getElem?_eq_none (by simp [bvals]; omega)] at hj; cases hj
      rw [get_bvals l j hj'] at hj
      rw [← Option.some.inj hj]
      have hadd : (⟨gx, ox, none⟩ : Addr).add j = ⟨gx, ox + j, none⟩ := by unfold Addr.add; split <;> simp_all
      rw [hadd]
      exact hc j hj')
    (fun u hu => by simp [bvals] at hu; obtain ⟨b, _, rfl⟩ := hu; rfl) hpos (by unfold maxLen; omega) (by omega) hBs _ rfl (fun g cap w' hown hg hat hlt => ?_)
  rw [Nat.zero_add] at hown ⊢
  rw [List.nil_append] at hown
  exact h g cap w' ⟨hown, hbel.grown hg hBs (fun k hk => by rw [← Option.some.inj hk]; exact hBg), Nat.le_trans hBs hg.size⟩ hg
theorem step_pushB2 {ops : Array Oper} {o : Oper} {a : Act} {K : Act → World → Prop} {Q : Exit → Act → World → Prop} {E : Prop} (hgd : o.guard = none) (s x : Operand) (ho : o.op = .call { callee := .builtin .append, args := #[s, x], argTypes := #[27, 27] })
    (B : Nat) (v : Value) (l : List (BitVec 8)) (hs : a.eval s = v) (W0 w1 : World) (gt : Nat) (b : BitVec 8) (hr : Row w1 gt 5 #[.int .u8 b.toNat]) (hb : BufB B v l W0 w1)
    (hx : a.eval x = .slice (some ⟨gt, 0, none⟩) 1 1) (hlen : l.length ≤ 1000000)
    (h : ∀ v' w', BufB B v' (l ++ [b]) W0 w' → w1.grownBy w' v.ownBlock → K (a.put o.dst v') w') : if Region.wanted o (yielded ops a.tmps) = true then Oper.wp Try.prog o a w1 K Q else E := by
  obtain ⟨i, hi, hzz⟩ := Option.map_eq_some_iff.1 Try.info5
  simp only [Prod.mk.injEq] at hzz
  refine step_append_lies w1 hgd s x 27 ho B 5 i _ 1 1 Try.underlying27 hi hzz.1 hzz.2.1 hzz.2.2 rfl (by decide) v l.length (bvals l) hs hb.1 ⟨gt, 0, none⟩ 1 1 [.int .u8 b.toNat] hx rfl ?_ ?_ (by decide) (by unfold maxLen; omega) (by omega) hb.2.2 _ rfl ?_
  · intro j y hj
    match j, hj with
    | 0, hj =>
      simp at hj; subst hj
      have hadd : (⟨gt, 0, none⟩ : Addr).add 0 = ⟨gt, 0, none⟩ := by simp [Addr.add]
      rw [hadd]; exact hr.cell 0
    | (j + 1), hj => simp at hj
  · intro y hy; simp at hy; subst hy; rfl
  · intro g cap w' ho' hg hat hlt
    refine h _ w' ?_ hg
    rw [push_bvals] at ho'
    have := Buf.grown hb ho' hg
    rw [BufB, List.length_append]
    exact this
theorem BufB.alc {B : Nat} {v : Value} {l : List (BitVec 8)} {W0 w : World} (h : BufB B v l W0 w) (o : Obj) : BufB B v l W0 (w.alloc o) := Buf.alloc h o
theorem then_at {K : Act → World → Prop} {Q : Exit → Act → World → Prop} {ex : Exit} {a : Act} {w w' : World} (e : w' = w) (h : Exit.then K Q ex a w') : Exit.then K Q ex a w := e ▸ h
theorem wpList_at {P : Program} {ops : Array Oper} {rest : List Oper} {a : Act} {Q : Exit → Act → World → Prop} {w w' : World} (e : w' = w) (h : wpList P ops Q rest a w') : wpList P ops Q rest a w := e ▸ h
theorem range2 {w : World} {g o : Nat} {u v : Value} (h1 : w.cell? ⟨g, o, none⟩ = some u) (h2 : w.cell? ⟨g, o + 1, none⟩ = some v) : w.rangeAt g o [u, v] := by
  intro j x hx
  match j, hx with
  | 0, hx => simp at hx; subst hx; exact h1
  | 1, hx => simp at hx; subst hx; exact h2
  | (j + 2), hx => simp at hx
/-- the copies that ShareDetect makes -/
structure Five (w6 : World) (gb ga gr gz gn : Nat) (b : List (BitVec 8)) (La Lr Lz Ln : List Shr) (w : World) : Prop where
  bel : Below w6.heap.size w6 w
  cb : CsB w gb b
  ca : CsS w ga La
  cr : CsS w gr Lr
  cz : CsS w gz Lz
  cn : CsS w gn Ln
  h6 : w6.heap.size ≤ gb
  hba : gb < ga
  har : ga < gr
  hrz : gr < gz
  hzn : gz < gn
  hn : gn < w.heap.size
section
variable {w6 w w' : World} {gb ga gr gz gn : Nat} {b : List (BitVec 8)} {La Lr Lz Ln : List Shr}
theorem Five.below (h : Five w6 gb ga gr gz gn b La Lr Lz Ln w) (hb : Below w.heap.size w w') : Five w6 gb ga gr gz gn b La Lr Lz Ln w' := by
  have h1 := h.hba; have h2 := h.har; have h3 := h.hrz; have h4 := h.hzn; have h5 := h.hn
  exact ⟨below_of h.bel hb h.bel.size, h.cb.below hb (by omega), h.ca.below hb (by omega), h.cr.below hb (by omega), h.cz.below hb (by omega), h.cn.below hb h5, h.h6, h1, h2, h3, h4, Nat.lt_of_lt_of_le h5 hb.size⟩
theorem Five.drewN (h : Five w6 gb ga gr gz gn b La Lr Lz Ln w) (n : Nat) : Five w6 gb ga gr gz gn b La Lr Lz Ln (w.drewN n) := h.below (below_drewN (Below.refl _ _) n)
theorem size_setCells2 (w : World) (g o : Nat) (u v : Value) : (w.setCells g o [u, v]).heap.size = w.heap.size := by simp [World.setCells, World.setCell]
theorem Five.setA (h : Five w6 gb ga gr gz gn b La Lr Lz Ln w) (k : Nat) (hk : k < La.length) (s : Shr) : Five w6 gb ga gr gz gn b (La.set k s) Lr Lz Ln (w.setCells ga (k * 2) [.int .u8 s.x.toNat, s.v]) := by
  have h0 := h.h6; have h1 := h.hba; have h2 := h.har; have h3 := h.hrz; have h4 := h.hzn; have h5 := h.hn
  exact ⟨below_setCells2 h.bel (by omega) _ _ _, h.cb.same (setCells_block _ _ _ _ _ _ (by omega)), h.ca.set k hk s, h.cr.other (by omega) _ _ _, h.cz.other (by omega) _ _ _, h.cn.other (by omega) _ _ _, h0, h1, h2, h3, h4, by rw [size_setCells2]; exact h5⟩
theorem Five.setR (h : Five w6 gb ga gr gz gn b La Lr Lz Ln w) (k : Nat) (hk : k < Lr.length) (s : Shr) : Five w6 gb ga gr gz gn b La (Lr.set k s) Lz Ln (w.setCells gr (k * 2) [.int .u8 s.x.toNat, s.v]) := by
  have h0 := h.h6; have h1 := h.hba; have h2 := h.har; have h3 := h.hrz; have h4 := h.hzn; have h5 := h.hn
  exact ⟨below_setCells2 h.bel (by omega) _ _ _, h.cb.same (setCells_block _ _ _ _ _ _ (by omega)), h.ca.other (by omega) _ _ _, h.cr.set k hk s, h.cz.other (by omega) _ _ _, h.cn.other (by omega) _ _ _, h0, h1, h2, h3, h4, by rw [size_setCells2]; exact h5⟩
theorem Five.setZ (h : Five w6 gb ga gr gz gn b La Lr Lz Ln w) (k : Nat) (hk : k < Lz.length) (s : Shr) : Five w6 gb ga gr gz gn b La Lr (Lz.set k s) Ln (w.setCells gz (k * 2) [.int .u8 s.x.toNat, s.v]) := by
  have h0 := h.h6; have h1 := h.hba; have h2 := h.har; have h3 := h.hrz; have h4 := h.hzn; have h5 := h.hn
  exact ⟨below_setCells2 h.bel (by omega) _ _ _, h.cb.same (setCells_block _ _ _ _ _ _ (by omega)), h.ca.other (by omega) _ _ _, h.cr.other (by omega) _ _ _, h.cz.set k hk s, h.cn.other (by omega) _ _ _, h0, h1, h2, h3, h4, by rw [size_setCells2]; exact h5⟩
theorem Five.setN (h : Five w6 gb ga gr gz gn b La Lr Lz Ln w) (k : Nat) (hk : k < Ln.length) (s : Shr) : Five w6 gb ga gr gz gn b La Lr Lz (Ln.set k s) (w.setCells gn (k * 2) [.int .u8 s.x.toNat, s.v]) := by
  have h0 := h.h6; have h1 := h.hba; have h2 := h.har; have h3 := h.hrz; have h4 := h.hzn; have h5 := h.hn
  exact ⟨below_setCells2 h.bel (by omega) _ _ _, h.cb.same (setCells_block _ _ _ _ _ _ (by omega)), h.ca.other (by omega) _ _ _, h.cr.other (by omega) _ _ _, h.cz.other (by omega) _ _ _, h.cn.set k hk s, h0, h1, h2, h3, h4, by rw [size_setCells2]; exact h5⟩
end

theorem five_mk {w6 W9 wa wr wz wn : World} {gb ga gr gz gn : Nat} {b : List (BitVec 8)} {M : List Shr} (h9 : Below w6.heap.size w6 W9) (hc : CsB W9 gb b) (h6 : w6.heap.size ≤ gb) (hg : gb < W9.heap.size)
    (ha2 : W9.heap.size ≤ ga) (ha3 : ga < wa.heap.size) (ha4 : Below W9.heap.size W9 wa) (ha5 : CsS wa ga M) (hr2 : wa.heap.size ≤ gr) (hr3 : gr < wr.heap.size) (hr4 : Below wa.heap.size wa wr) (hr5 : CsS wr gr M)
    (hz2 : wr.heap.size ≤ gz) (hz3 : gz < wz.heap.size) (hz4 : Below wr.heap.size wr wz) (hz5 : CsS wz gz M) (hn2 : wz.heap.size ≤ gn) (hn3 : gn < wn.heap.size) (hn4 : Below wz.heap.size wz wn) (hn5 : CsS wn gn M) : Five w6 gb ga gr gz gn b M M M M wn := by
  have s1 := h9.size; have s2 := ha4.size; have s3 := hr4.size; have s4 := hz4.size; have s5 := hn4.size
  exact ⟨below_of (below_of (below_of (below_of h9 ha4 s1) hr4 (by omega)) hz4 (by omega)) hn4 (by omega), (((hc.below ha4 hg).below hr4 (by omega)).below hz4 (by omega)).below hn4 (by omega),
    ((ha5.below hr4 ha3).below hz4 (by omega)).below hn4 (by omega), (hr5.below hz4 hr3).below hn4 (by omega), hz5.below hn4 hz3, hn5, h6, by omega, by omega, by omega, by omega, hn3⟩

set_option maxRecDepth 20000 in
set_option maxHeartbeats 20000000 in
theorem detect_walk (asl ar : Option Addr) (s r : List (BitVec 8)) (ls cs lr cr p q : Nat) (k1 i1 d1 : BitVec 8) (els : ls = s.length) (elr : lr = r.length) (hp : p < 256) (hq : q < 256) (w : World) (B1 : Bs w asl s) (B2 : Bs w ar r) :
    Calls Try.prog 10 #[.agg #[.slice asl ls cs, .slice ar lr cr, .int .u8 p, .int .u8 q], .agg #[.int .u8 k1.toNat, .int .u8 i1.toNat, .int .u8 d1.toNat]] w fun e w' => e = .returned (.bool true) ∧ Below w.heap.size w w' := by
  obtain ⟨g, eg⟩ : ∃ g, g = w.heap.size := ⟨_, rfl⟩
  obtain ⟨W0, hW0⟩ : ∃ W, W = (w.alloc (.cells #[.slice asl ls cs, .slice ar lr cr, .int .u8 p, .int .u8 q] 29)).alloc (.cells #[.int .u8 k1.toNat, .int .u8 i1.toNat, .int .u8 d1.toNat] 51) := ⟨_, rfl⟩
  have hd : Row W0 g 29 (dealC asl ar ls cs lr cr p q) := by rw [hW0]; exact (Row.new' _ _ eg).alloc _
  have he : Row W0 (g + 1) 51 #[.int .u8 k1.toNat, .int .u8 i1.toNat, .int .u8 d1.toNat] := by rw [hW0]; exact Row.new' _ _ (by simp [eg])
  have hb : Below w.heap.size w W0 := by rw [hW0]; exact ((Below.refl _ _).alloc (Nat.le_refl _) _).alloc (by simp) _
  have HN := Lib.hid (And.intro (needN_pos p) (And.intro (needN_le p) (And.intro (allN_ge p q) (allN_le p q))))
  have HF := Lib.hid (fun W => fits_any asl ar ls lr cs cr p q hp hq W)
  generalize needN p = N at *
  generalize allN p q = A at *
  generalize hsm : decide (ls ≤ 40 ∧ lr ≤ 400) = sm at *
  have HSM := Lib.hid hsm
  have EG := Lib.hid eg
  have ES := Lib.hid els
  have ER := Lib.hid elr
  have HB1 := Lib.hid B1
  have HB2 := Lib.hid B2
  have HW0 := Lib.hid hW0
  clear eg els elr B1 B2 hW0 hsm
  go_enter Try.func10, Try.ntmps10
  go_wp2_with (first | ((with_reducible show wpList _ _ _ (Oper.mk _ (Op.box _ _) _ _ _ _ :: _) _ _); refine wpList_box_row rfl 51 (.tmp 1) rfl _ rfl (g + 1) (by simp [EG.out]) ?_))
  rw [← EG.out, ← HW0.out]
  refine (sanity_any W0).mono ?_
  rintro e w1 ⟨rfl, b1⟩
  have HD1 := Lib.hid (hd.below b1 hd.lt)
  have HE1 := Lib.hid (he.below b1 he.lt)
  have Hb1 := Lib.hid (below_of hb b1 hb.size)
  clear hd he hb b1
  go_wp2_with (first | ((with_reducible show wpList _ _ _ (Oper.mk _ (Op.load _ _) _ _ _ _ :: _) _ _); refine wpList_load_row rfl 29 (.tmp 2) rfl g rfl 29 (dealC asl ar ls cs lr cr p q) (0, 0) _ HD1.out Try.underlying29 rfl Try.n29 ?_))
  refine (HF.out w1).mono ?_
  rintro e w2 ⟨rfl, b2⟩
  obtain ⟨g6, eg6⟩ : ∃ g, g = w2.heap.size := ⟨_, rfl⟩
  obtain ⟨W3, hW3⟩ : ∃ W, W = w2.alloc (.cells #[.int .i64 N, .int .i64 A] 30) := ⟨_, rfl⟩
  have hv3 : Row W3 g6 30 #[.int .i64 N, .int .i64 A] := by rw [hW3]; exact Row.new' _ _ eg6
  have hd3 : Row W3 g 29 (dealC asl ar ls cs lr cr p q) := by rw [hW3]; exact (HD1.out.below b2 HD1.out.lt).alloc _
  have HE3 : Hid (Row W3 (g + 1) 51 #[.int .u8 k1.toNat, .int .u8 i1.toNat, .int .u8 d1.toNat]) := Lib.hid (by rw [hW3]; exact (HE1.out.below b2 HE1.out.lt).alloc _)
  have Hb3 : Hid (Below w.heap.size w W3) := Lib.hid (by rw [hW3]; exact (below_of Hb1.out b2 Hb1.out.size).alloc (Nat.le_trans Hb1.out.size b2.size) _)
  have EG6 := Lib.hid eg6
  have HW3 := Lib.hid hW3
  have c0 := hd3.cell 0
  have c1 := hd3.cell 1
  have v0 := hv3.cell 0
  have v1 := hv3.cell 1
  simp only [dealC, List.getElem?_toArray, List.getElem?_cons_zero, List.getElem?_cons_succ] at c0 c1 v0 v1
  have HD3 := Lib.hid hd3
  have HV3 := Lib.hid hv3
  clear b2 HD1 HE1 Hb1 eg6 hW3 hd3 hv3
  cases sm with
  | false =>
    go_wp2_with (first | ((with_reducible show wpList _ _ _ (Oper.mk _ (Op.alloc _) _ _ _ _ :: _) _ _); refine wpList_alloc_row rfl 30 rfl _ Try.z30 g6 EG6.out ?_) | ((with_reducible show wpList _ _ _ (Oper.mk _ (Op.store _ _ _) _ _ _ _ :: _) _ _); (refine wpList_put_arr rfl 30 (.tmp 6) (.tmp 29) rfl rfl g6 30 _ #[.int .i64 N, .int .i64 A] rfl rfl (Row.new' _ _ EG6.out) Try.n30 rfl (one_w _ _) ?_; rw [setRow_new _ _ _ _ _ EG6.out, ← HW3.out])))
    go_ret
    exact ⟨rfl, Hb3.out⟩
  | true =>
    by_cases hls : ls = 0
    · subst hls
      go_wp2_with (first | ((with_reducible show wpList _ _ _ (Oper.mk _ (Op.alloc _) _ _ _ _ :: _) _ _); refine wpList_alloc_row rfl 30 rfl _ Try.z30 g6 EG6.out ?_) | ((with_reducible show wpList _ _ _ (Oper.mk _ (Op.store _ _ _) _ _ _ _ :: _) _ _); (refine wpList_put_arr rfl 30 (.tmp 6) (.tmp 29) rfl rfl g6 30 _ #[.int .i64 N, .int .i64 A] rfl rfl (Row.new' _ _ EG6.out) Try.n30 rfl (one_w _ _) ?_; rw [setRow_new _ _ _ _ _ EG6.out, ← HW3.out])))
      go_ret
      exact ⟨rfl, Hb3.out⟩
    · have hls1 : ¬ (ls : Int) = 0 := by omega
      have hls2 : ((ls : Int) == 0) = false := by simp; omega
      by_cases hNA : A = N
      · subst hNA
        go_wp2_with (first | ((with_reducible show wpList _ _ _ (Oper.mk _ (Op.alloc _) _ _ _ _ :: _) _ _); refine wpList_alloc_row rfl 30 rfl _ Try.z30 g6 EG6.out ?_) | ((with_reducible show wpList _ _ _ (Oper.mk _ (Op.store _ _ _) _ _ _ _ :: _) _ _); (refine wpList_put_arr rfl 30 (.tmp 6) (.tmp 29) rfl rfl g6 30 _ #[.int .i64 A, .int .i64 A] rfl rfl (Row.new' _ _ EG6.out) Try.n30 rfl (one_w _ _) ?_; rw [setRow_new _ _ _ _ _ EG6.out, ← HW3.out])))
        go_ret
        exact ⟨rfl, Hb3.out⟩
      · have hNA1 : ¬ (A : Int) = (N : Int) := by omega
        have hNA2 : ((A : Int) == (N : Int)) = false := by simp; omega
        go_wp2_with (first | ((with_reducible show wpList _ _ _ (Oper.mk _ (Op.alloc _) _ _ _ _ :: _) _ _); refine wpList_alloc_row rfl 30 rfl _ Try.z30 g6 EG6.out ?_) | ((with_reducible show wpList _ _ _ (Oper.mk _ (Op.store _ _ _) _ _ _ _ :: _) _ _); (refine wpList_put_arr rfl 30 (.tmp 6) (.tmp 29) rfl rfl g6 30 _ #[.int .i64 N, .int .i64 A] rfl rfl (Row.new' _ _ EG6.out) Try.n30 rfl (one_w _ _) ?_; rw [setRow_new _ _ _ _ _ EG6.out, ← HW3.out])) | ((with_reducible show wpList _ _ _ (Oper.mk _ (Op.load _ _) _ _ _ _ :: _) _ _); refine wpList_load_row rfl 30 (.tmp 6) rfl g6 rfl 30 #[.int .i64 N, .int .i64 A] (0, 0) _ HV3.out Try.underlying30 rfl Try.n30 ?_))
        clear c0 c1 v0 v1
        have hsmT := of_decide_eq_true HSM.out
        obtain ⟨n1, n8, nA, n16⟩ := HN.out
        have hsp := split_any asl ar s r cs cr N A n1 nA (by omega) (by rw [← ES.out]; omega) (by rw [← ER.out]; omega) W3 (HB1.out.below Hb3.out (Nat.le_refl _)) (HB2.out.below Hb3.out (Nat.le_refl _))
        rw [← ES.out, ← ER.out] at hsp
        refine hsp.mono ?_
        clear hsp
        rintro e w6 ⟨gl, M, rfl, hM, hMl, hSh, hgl, hrow, b6⟩
        have hd6 := HD3.out.below b6 HD3.out.lt
        have he6 := HE3.out.below b6 HE3.out.lt
        have hv6 := HV3.out.below b6 HV3.out.lt
        have Hb6 := Lib.hid (below_of Hb3.out b6 Hb3.out.size)
        have c0 := hd6.cell 0
        have e0 := he6.cell 0
        have e1 := he6.cell 1
        have v1 := hv6.cell 1
        simp only [dealC, List.getElem?_toArray, List.getElem?_cons_zero, List.getElem?_cons_succ] at c0 e0 e1 v1
        have HD6 := Lib.hid hd6
        have HE6 := Lib.hid he6
        have HV6 := Lib.hid hv6
        have HM := Lib.hid hM
        have HMl := Lib.hid hMl
        have HSh := Lib.hid hSh
        have HGL := Lib.hid hrow.lt
        obtain ⟨kk, hkk⟩ : ∃ kk, kk = k1.toNat % A := ⟨_, rfl⟩
        obtain ⟨ii, hii⟩ : ∃ ii, ii = i1.toNat % ls := ⟨_, rfl⟩
        have kkA : kk < A := by rw [hkk]; exact Nat.mod_lt _ (by omega)
        have iil : ii < ls := by rw [hii]; exact Nat.mod_lt _ (by omega)
        have hrk : (k1.toNat : Int).tmod (A : Int) = (kk : Int) := by rw [hkk]; rfl
        have hri : (i1.toNat : Int).tmod (ls : Int) = (ii : Int) := by rw [hii]; rfl
        have hA0 : ¬ (A : Int) = 0 := by omega
        have hA02 : ((A : Int) == 0) = false := by simp; omega
        have k256 := k1.isLt
        have i256 := i1.isLt
        have kki : (kk : Int) < (A : Int) := by omega
        have iii : (ii : Int) < (ls : Int) := by omega
        have bls : (M.getD kk zs).b.length = ls := by rw [← dB_dat, hM, split_dB _ _ _ _ _ kkA, length_maskL, ES.out]
        obtain ⟨ak, ck, px, pb, hck, hbk⟩ := Shs.at hSh kk (by rw [hMl]; exact kkA) _ rfl _ rfl
        rw [bls] at pb hck
        obtain ⟨bk, ebk⟩ : ∃ b, b = (M.getD kk zs).b := ⟨_, rfl⟩
        obtain ⟨xk, exk⟩ : ∃ x, x = (M.getD kk zs).x := ⟨_, rfl⟩
        rw [← ebk] at bls hbk
        rw [← exk] at px
        have HKK := Lib.hid hkk
        have HII := Lib.hid hii
        have EBK := Lib.hid ebk
        have EXK := Lib.hid exk
        have BLS := Lib.hid bls
        have HBK := Lib.hid hbk
        have HCK := Lib.hid hck
        have PX := Lib.hid px
        have PB := Lib.hid pb
        clear hd6 he6 hv6 hM hMl hSh hgl hrow b6 hkk hii ebk exk bls hbk hck px
        go_wp2_with fail
        go_quiet (fail)
        revert nq
        intro nqa
        go_wp2_with fail
        go_quiet (fail)
        obtain ⟨W7, hW7⟩ : ∃ W, W = (w6.drewN nqa).drewN nq := ⟨_, rfl⟩
        have hB7 : Below w6.heap.size w6 W7 := by rw [hW7]; exact below_drewN (below_drewN (Below.refl _ _) _) _
        first | rw [← hW7] | rw [← World.drewN_drewN, ← hW7]
        have hblk : ∀ {a : Addr} {v : Value}, w6.cell? a = some v → a.block < w6.heap.size := fun h => block_lt_of_cell h
        have pb7 : (W7.alloc (.cells #[] 5)).cell? ⟨gl, kk * 2 + 1, none⟩ = some (.slice ak ls ck) := ((hB7.alloc hB7.size _).cell (hblk PB.out)).trans PB.out
        have HB7 := Lib.hid hB7
        clear hW7 hB7 hblk pb c0 e0 e1 v1
        go_wp2_with (first | ((with_reducible show wpList _ _ _ (Oper.mk _ (Op.call _) _ _ _ _ :: _) _ _); refine wpList_copyB rfl (.tmp 88) (.tmp 93) rfl W7 _ W7.heap.size rfl rfl ak bk ck ls BLS.out.symm (HBK.out.below HB7.out (Nat.le_refl _)) (by omega) (by omega) rfl rfl (fun gb capb w8 hb1 hb2 hb3 hb4 hb5 => ?_)))
        clear pb7
        have hB8 := below_of HB7.out hb4 HB7.out.size
        have he8 := HE6.out.below hB8 HE6.out.lt
        have e2 := he8.cell 2
        simp only [List.getElem?_toArray, List.getElem?_cons_zero, List.getElem?_cons_succ] at e2
        have cb := (hb5 ii (by rw [BLS.out]; exact iil)).1
        have fb := (hb5 ii (by rw [BLS.out]; exact iil)).2
        have d256 := d1.isLt
        obtain ⟨dl, hdl⟩ : ∃ dl : BitVec 8, dl.toNat = 1 + d1.toNat % 255 := ⟨BitVec.ofNat 8 (1 + d1.toNat % 255), by rw [BitVec.toNat_ofNat, Nat.mod_eq_of_lt (by omega)]⟩
        have hdl0 : dl ≠ 0#8 := fun e => by rw [e] at hdl; have h0 : (0#8 : BitVec 8).toNat = 0 := rfl; omega
        have hdli : (1 : Int) + (d1.toNat : Int) % 255 = (dl.toNat : Int) := by rw [hdl]; omega
        have hdl256 := dl.isLt
        have hxor := u8_xor_bv (bk.getD ii 0#8) dl
        obtain ⟨z, hz⟩ : ∃ z, z = bk.getD ii 0#8 ^^^ dl := ⟨_, rfl⟩
        rw [← hz] at hxor
        have hcapi : (ii : Int) < (capb : Int) := by omega
        have HZ := Lib.hid hz
        have HDL := Lib.hid hdl0
        have HB8 := Lib.hid hB8
        have HE8 := Lib.hid he8
        have HC8 := Lib.hid hb5
        have HG8 := Lib.hid hb3
        have HG7 := Lib.hid (Nat.le_trans HB7.out.size hb2)
        have HCAPB := Lib.hid hb1
        clear hz hdl0 hB8 he8 hb5 hb4 hb2 hb3 hdl
        generalize hold : bk.getD ii 0#8 = old at *
        have HOLD := Lib.hid hold
        clear hold
        refine wp_region_quiet_last (by kernel_rfl) (by kernel_rfl) _ rfl ?_
        simp only [List.dropLast_cons_cons, List.dropLast_singleton]
        repeat (quiet_step (fail))
        refine wpQuiet_nil ?_
        intro _ hw'
        obtain ⟨nqb, hw''⟩ := hw'
        subst hw''
        obtain ⟨W9, hW9⟩ : ∃ W, W = (w8.drewN nqb).setCell ⟨gb, ii, none⟩ (.int .u8 z.toNat) := ⟨_, rfl⟩
        have HG9 : Hid (w8.heap.size = W9.heap.size) := Lib.hid (by rw [hW9]; simp [World.setCell, World.drewN])
        have HB9 : Hid (Below w6.heap.size w6 W9) := Lib.hid (by rw [hW9]; exact (below_drewN HB8.out nqb).setCell (p := ⟨gb, ii, none⟩) HG7.out _)
        have hcb8 : CsB (w8.drewN nqb) gb bk := HC8.out.same rfl
        have HC9 : Hid (CsB W9 gb (bk.set ii z)) := Lib.hid (by rw [hW9]; exact hcb8.set ii (by rw [BLS.out]; exact iil) z)
        have HW9 := Lib.hid hW9
        obtain ⟨jj, hjj⟩ : ∃ jj, jj = (kk + 1) % A := ⟨_, rfl⟩
        have jjA : jj < A := by rw [hjj]; exact Nat.mod_lt _ (by omega)
        have hrj : ((kk : Int) + 1).tmod (A : Int) = (jj : Int) := by rw [hjj]; rfl
        have jji : (jj : Int) < (A : Int) := by omega
        have a16 : (A : Int) ≤ 16 := by omega
        have HJJ := Lib.hid hjj
        have bjl : (M.getD jj zs).b.length = ls := by rw [← dB_dat, HM.out, split_dB _ _ _ _ _ jjA, length_maskL, ES.out]
        obtain ⟨aj, cj, qx, qb, hcj, hbj⟩ := Shs.at HSh.out jj (by rw [HMl.out]; exact jjA) _ rfl _ rfl
        rw [bjl] at qb hcj
        obtain ⟨bj, ebj⟩ : ∃ b, b = (M.getD jj zs).b := ⟨_, rfl⟩
        obtain ⟨xj, exj⟩ : ∃ x, x = (M.getD jj zs).x := ⟨_, rfl⟩
        rw [← ebj] at bjl hbj
        rw [← exj] at qx
        have EBJ := Lib.hid ebj
        have EXJ := Lib.hid exj
        have BJL := Lib.hid bjl
        have HBJ := Lib.hid hbj
        have HCJ := Lib.hid hcj
        have QX := Lib.hid qx
        have QB := Lib.hid qb
        clear hW9 hcb8 e2 hjj bjl ebj exj hbj hcj qx qb HC8 hcapi
        have hkM : kk < M.length := by rw [HMl.out]; exact kkA
        have hblk : ∀ {a : Addr} {v : Value}, w6.cell? a = some v → a.block < w6.heap.size := fun h => block_lt_of_cell h
        go_wp2_with (first | ((with_reducible show wpList _ _ _ (Oper.mk _ (Op.call _) _ _ _ _ :: _) _ _); refine wpList_copyS rfl (.tmp 107) (.tmp 108) rfl W9 _ w8.heap.size HG9.out (by exact congrArg (fun W => World.alloc W (.cells #[] 33)) HW9.out.symm) gl M A A HMl.out.symm (HSh.out.below HB9.out (Nat.le_refl _)) (by omega) (by omega) rfl rfl (fun ga capa wa ha1 ha2 ha3 ha4 ha5 => ?_); have HBa := Lib.hid (below_of HB9.out ha4 HB9.out.size); clear cb fb hxor hdli) | ((with_reducible show wpList _ _ _ (Oper.mk _ (Op.call _) _ _ _ _ :: _) _ _); refine wpList_copyS rfl (.tmp 110) (.tmp 111) rfl wa _ wa.heap.size rfl rfl gl M A A HMl.out.symm (HSh.out.below HBa.out (Nat.le_refl _)) (by omega) (by omega) rfl rfl (fun gr capr wr hr1 hr2 hr3 hr4 hr5 => ?_); have HBr := Lib.hid (below_of HBa.out hr4 HBa.out.size)) | ((with_reducible show wpList _ _ _ (Oper.mk _ (Op.call _) _ _ _ _ :: _) _ _); refine wpList_copyS rfl (.tmp 113) (.tmp 114) rfl wr _ wr.heap.size rfl rfl gl M A A HMl.out.symm (HSh.out.below HBr.out (Nat.le_refl _)) (by omega) (by omega) rfl rfl (fun gz capz wz hz1 hz2 hz3 hz4 hz5 => ?_); have HBz := Lib.hid (below_of HBr.out hz4 HBr.out.size)) | ((with_reducible show wpList _ _ _ (Oper.mk _ (Op.call _) _ _ _ _ :: _) _ _); refine wpList_copyS rfl (.tmp 116) (.tmp 117) rfl wz _ wz.heap.size rfl rfl gl M A A HMl.out.symm (HSh.out.below HBz.out (Nat.le_refl _)) (by omega) (by omega) rfl rfl (fun gn capn wn hn1 hn2 hn3 hn4 hn5 => ?_); have hF : Five w6 gb ga gr gz gn (bk.set ii z) M M M M wn := five_mk HB9.out HC9.out HG7.out (by rw [← HG9.out]; exact HG8.out) ha2 ha3 ha4 ha5 hr2 hr3 hr4 hr5 hz2 hz3 hz4 hz5 hn2 hn3 hn4 hn5; have x14 : wn.cell? ⟨gl, kk * 2, none⟩ = some (.int .u8 xk.toNat) := (hF.bel.cell (hblk PX.out)).trans PX.out; have HF4 := Lib.hid hF; have AC := Lib.hid (And.intro ha1 (And.intro hr1 (And.intro hz1 hn1))); clear hF ha1 ha2 ha3 ha4 ha5 hr1 hr2 hr3 hr4 hr5 hz1 hz2 hz3 hz4 hz5 hn1 hn2 hn3 hn4 hn5 HBa HBr HBz) | ((with_reducible show wpList _ _ _ (Oper.mk _ (Op.store _ _ _) _ _ _ _ :: _) _ _); refine wpList_store_mid rfl 33 (.tmp 128) (.tmp 127) rfl ga (kk * 2) #[.int .u8 xk.toNat, .slice (some ⟨gb, 0, none⟩) ls capb] rfl rfl (HF4.out.ca.there kk hkM) Try.n33 (one_share _ _ _ _) ?_; obtain ⟨W14, hW14⟩ : ∃ W, W = wn.setCells ga (kk * 2) [.int .u8 xk.toNat, .slice (some ⟨gb, 0, none⟩) ls capb] := ⟨_, rfl⟩; refine wpList_at hW14 ?_; have HF14 : Hid (Five w6 gb ga gr gz gn (bk.set ii z) (M.set kk ⟨xk, .slice (some ⟨gb, 0, none⟩) ls capb, bk.set ii z⟩) M M M W14) := Lib.hid (by rw [hW14]; exact HF4.out.setA kk hkM ⟨xk, .slice (some ⟨gb, 0, none⟩) ls capb, bk.set ii z⟩); have HR14 : Hid (W14.rangeAt gl (jj * 2) [.int .u8 xj.toNat, .slice aj ls cj]) := Lib.hid (range2 ((HF14.out.bel.cell (hblk QX.out)).trans QX.out) ((HF14.out.bel.cell (hblk QB.out)).trans QB.out)); clear hW14 x14) | ((with_reducible show wpList _ _ _ (Oper.mk _ (Op.load _ _) _ _ _ _ :: _) _ _); refine wpList_load_mid rfl 33 (.tmp 137) rfl gl (jj * 2) rfl [.int .u8 xj.toNat, .slice aj ls cj] _ HR14.out Try.underlying33 rfl Try.n33 ?_) | ((with_reducible show wpList _ _ _ (Oper.mk _ (Op.store _ _ _) _ _ _ _ :: _) _ _); refine wpList_store_mid rfl 33 (.tmp 139) (.tmp 138) rfl gr (kk * 2) #[.int .u8 xj.toNat, .slice aj ls cj] rfl rfl (HF14.out.cr.there kk hkM) Try.n33 (one_share _ _ _ _) ?_; obtain ⟨W15, hW15⟩ : ∃ W, W = W14.setCells gr (kk * 2) [.int .u8 xj.toNat, .slice aj ls cj] := ⟨_, rfl⟩; refine wpList_at hW15 ?_; have HF15 : Hid (Five w6 gb ga gr gz gn (bk.set ii z) (M.set kk ⟨xk, .slice (some ⟨gb, 0, none⟩) ls capb, bk.set ii z⟩) (M.set kk ⟨xj, .slice aj ls cj, bj⟩) M M W15) := Lib.hid (by rw [hW15]; exact HF14.out.setR kk hkM ⟨xj, .slice aj ls cj, bj⟩); have b15 : W15.cell? ⟨gl, kk * 2 + 1, none⟩ = some (.slice ak ls ck) := (HF15.out.bel.cell (hblk PB.out)).trans PB.out; clear hW15) | ((with_reducible show wpList _ _ _ (Oper.mk _ (Op.store _ _ _) _ _ _ _ :: _) _ _); refine wpList_store_mid rfl 33 (.tmp 148) (.tmp 147) rfl gz (kk * 2) #[.int .u8 0, .slice ak ls ck] rfl rfl (HF15.out.cz.there kk hkM) Try.n33 (one_share _ _ _ _) ?_; obtain ⟨W16, hW16⟩ : ∃ W, W = W15.setCells gz (kk * 2) [.int .u8 0, .slice ak ls ck] := ⟨_, rfl⟩; refine wpList_at hW16 ?_; have HF16 : Hid (Five w6 gb ga gr gz gn (bk.set ii z) (M.set kk ⟨xk, .slice (some ⟨gb, 0, none⟩) ls capb, bk.set ii z⟩) (M.set kk ⟨xj, .slice aj ls cj, bj⟩) (M.set kk ⟨0#8, .slice ak ls ck, bk⟩) M W16) := Lib.hid (by rw [hW16]; exact HF15.out.setZ kk hkM ⟨0#8, .slice ak ls ck, bk⟩); clear hW16 b15))
        have HF17 : Hid (Five w6 gb ga gr gz gn (bk.set ii z) (M.set kk ⟨xk, .slice (some ⟨gb, 0, none⟩) ls capb, bk.set ii z⟩) (M.set kk ⟨xj, .slice aj ls cj, bj⟩) (M.set kk ⟨0#8, .slice ak ls ck, bk⟩) M W16) := HF16
        have hl' : (bk.set ii z).length = ls := by rw [List.length_set, BLS.out]
        have HL' := Lib.hid hl'
        have x17 : W16.cell? ⟨gl, kk * 2, none⟩ = some (.int .u8 xk.toNat) := (HF16.out.bel.cell (hblk PX.out)).trans PX.out
        have EB' : Hid (bk.set ii z = bk.set ii z) := Lib.hid rfl
        obtain ⟨b', eb'⟩ : ∃ b, b = bk.set ii z := ⟨_, rfl⟩
        rw [← eb'] at HF17 HL'
        have EB := Lib.hid eb'
        obtain ⟨S, hS⟩ : ∃ S, S = W16.heap.size := ⟨_, rfl⟩
        have HSz := Lib.hid hS
        have bA : Below S W16 (W16.alloc (.cells #[] 5)).drew := by rw [hS]; exact below_drewN ((Below.refl _ _).alloc (Nat.le_refl _) _) 1
        have bB : Below S W16 ((W16.alloc (.cells #[] 5)).alloc (.cells #[.int .u8 0] 5)).drew := by rw [hS]; exact below_drewN (((Below.refl _ _).alloc (Nat.le_refl _) _).alloc (by simp) _) 1
        have bC : Below S W16 ((W16.alloc (.cells #[.int .u8 0] 5)).alloc (.cells #[] 5)).drew := by rw [hS]; exact below_drewN (((Below.refl _ _).alloc (Nat.le_refl _) _).alloc (by simp) _) 1
        have rA : Row (W16.alloc (.cells #[] 5)).drew S 5 #[] := Row.new' _ _ hS
        have rB : Row ((W16.alloc (.cells #[] 5)).alloc (.cells #[.int .u8 0] 5)).drew S 5 #[] := (Row.new' (w := W16) 5 #[] hS).alloc _
        have rC : Row ((W16.alloc (.cells #[.int .u8 0] 5)).alloc (.cells #[] 5)).drew (S + 1) 5 #[] := Row.new' (w := W16.alloc (.cells #[.int .u8 0] 5)) 5 #[] (by simp [hS])
        have tB : Row ((W16.alloc (.cells #[] 5)).alloc (.cells #[.int .u8 0] 5)).drew (S + 1) 5 #[.int .u8 (0#8 : BitVec 8).toNat] := Row.new' (w := W16.alloc (.cells #[] 5)) 5 _ (by simp [hS])
        have tC : Row ((W16.alloc (.cells #[.int .u8 0] 5)).alloc (.cells #[] 5)).drew S 5 #[.int .u8 (0#8 : BitVec 8).toNat] := (Row.new' (w := W16) 5 #[.int .u8 (0#8 : BitVec 8).toNat] hS).alloc _
        have sb := HF17.out.cb.bs
        have kA := Lib.hid (And.intro bA (And.intro rA (sb.below (B := W16.heap.size) (by rw [hS] at bA; exact bA) (Nat.le_refl _))))
        have kB := Lib.hid (And.intro bB (And.intro rB (And.intro tB (sb.below (B := W16.heap.size) (by rw [hS] at bB; exact bB) (Nat.le_refl _)))))
        have kC := Lib.hid (And.intro bC (And.intro rC (And.intro tC (sb.below (B := W16.heap.size) (by rw [hS] at bC; exact bC) (Nat.le_refl _)))))
        have kF : Hid (∀ W, Below S W16 W → Five w6 gb ga gr gz gn b' (M.set kk ⟨xk, .slice (some ⟨gb, 0, none⟩) ls capb, b'⟩) (M.set kk ⟨xj, .slice aj ls cj, bj⟩) (M.set kk ⟨0#8, .slice ak ls ck, bk⟩) M W) := Lib.hid fun W hW => HF17.out.below (by rw [← hS]; exact hW)
        have xA : (W16.alloc (.cells #[] 5)).cell? ⟨gl, kk * 2, none⟩ = some (.int .u8 xk.toNat) := ((kF.out _ ((Below.refl _ _).alloc (Nat.le_of_eq HSz.out) _)).bel.cell (hblk PX.out)).trans PX.out
        have xA2 : (W16.alloc (.cells #[.int .u8 0] 5)).cell? ⟨gl, kk * 2, none⟩ = some (.int .u8 xk.toNat) := ((kF.out _ ((Below.refl _ _).alloc (Nat.le_of_eq HSz.out) _)).bel.cell (hblk PX.out)).trans PX.out
        have xB : ((W16.alloc (.cells #[] 5)).alloc (.cells #[.int .u8 0] 5)).cell? ⟨gl, kk * 2, none⟩ = some (.int .u8 xk.toNat) := ((kF.out _ (((Below.refl _ _).alloc (Nat.le_of_eq HSz.out) _).alloc (by simp [HSz.out]) _)).bel.cell (hblk PX.out)).trans PX.out
        have xC : ((W16.alloc (.cells #[.int .u8 0] 5)).alloc (.cells #[] 5)).cell? ⟨gl, kk * 2, none⟩ = some (.int .u8 xk.toNat) := ((kF.out _ (((Below.refl _ _).alloc (Nat.le_of_eq HSz.out) _).alloc (by simp [HSz.out]) _)).bel.cell (hblk PX.out)).trans PX.out
        clear HF4 HF14 HF15 HR14 HF16 hl' EB' eb' hS bA bB bC rA rB rC tB tC sb
        have hMd : dat M = splitL s r N A := HM.out
        have hblM : ∀ j, j < M.length → (M.getD j zs).b.length ≤ 1000000 := fun j hj => by rw [← dB_dat, hMd, split_dB _ _ _ _ _ (by rw [← HMl.out]; exact hj), length_maskL, ← ES.out]; omega
        have hxk : xk = dX (splitL s r N A) kk := by rw [← hMd, dX_dat]; exact EXK.out
        have hbkD : bk = dB (splitL s r N A) kk := by rw [← hMd, dB_dat]; exact EBK.out
        have hxj : xj = dX (splitL s r N A) jj := by rw [← hMd, dX_dat]; exact EXJ.out
        have svM : ∀ W, Below w6.heap.size w6 W → ∀ j, j < M.length → SV W (M.getD j zs).v (M.getD j zs).b := fun W hW j hj => (HSh.out.svs j hj).below hW (Nat.le_refl _)
        have b40 : ls ≤ 40 := hsmT.1
        have CN1 : Hid (∀ W, Below w6.heap.size w6 W → CsB W gb b' → CsS W ga (M.set kk ⟨xk, .slice (some ⟨gb, 0, none⟩) ls capb, b'⟩) → Calls Try.prog 18 #[.slice (some ⟨ga, 0, none⟩) A capa, .int .i64 N] W fun e w' => e = .returned (.tuple #[.slice none 0 0, .int .i64 40]) ∧ Below W.heap.size W w') := Lib.hid fun W hW hcb hca =>
          comb_none _ _ A capa N (by rw [List.length_set, HMl.out]) n1 (by omega) (by rw [List.length_set, HMl.out]; omega) (bl_set hkM hblM (by show b'.length ≤ _; rw [HL'.out]; omega)) W (hca.shs (sv_set hkM (svM W hW) ⟨some ⟨gb, 0, none⟩, capb, by show Value.slice _ ls capb = .slice _ b'.length capb; rw [HL'.out], by show b'.length ≤ capb; rw [HL'.out]; exact HCAPB.out, hcb.bs⟩))
            (by rw [dat_set, hMd]; show combR ((splitL s r N A).set kk (xk, b')) N = none; rw [hxk]; exact law_changed s r N A kk ii n1 (by omega) (by omega) kkA (by rw [← ES.out]; exact iil) dl HDL.out b' (by rw [EB.out, HZ.out, ← HOLD.out, hbkD]))
        have CN2 : Hid (∀ W, Below w6.heap.size w6 W → CsS W gr (M.set kk ⟨xj, .slice aj ls cj, bj⟩) → Calls Try.prog 18 #[.slice (some ⟨gr, 0, none⟩) A capr, .int .i64 N] W fun e w' => e = .returned (.tuple #[.slice none 0 0, .int .i64 40]) ∧ Below W.heap.size W w') := Lib.hid fun W hW hca =>
          comb_none _ _ A capr N (by rw [List.length_set, HMl.out]) n1 (by omega) (by rw [List.length_set, HMl.out]; omega) (bl_set hkM hblM (by show bj.length ≤ _; rw [BJL.out]; omega)) W (hca.shs (sv_set hkM (svM W hW) ⟨aj, cj, by show Value.slice _ ls cj = .slice _ bj.length cj; rw [BJL.out], by show bj.length ≤ cj; rw [BJL.out]; exact HCJ.out, HBJ.out.below hW (Nat.le_refl _)⟩))
            (by rw [dat_set, hMd]; show combR ((splitL s r N A).set kk (xj, bj)) N = none; rw [hxj, HJJ.out]; exact law_repeated s r N A kk (by omega) kkA bj)
        have CN3 : Hid (∀ W, Below w6.heap.size w6 W → CsS W gz (M.set kk ⟨0#8, .slice ak ls ck, bk⟩) → Calls Try.prog 18 #[.slice (some ⟨gz, 0, none⟩) A capz, .int .i64 N] W fun e w' => e = .returned (.tuple #[.slice none 0 0, .int .i64 40]) ∧ Below W.heap.size W w') := Lib.hid fun W hW hca =>
          comb_none _ _ A capz N (by rw [List.length_set, HMl.out]) n1 (by omega) (by rw [List.length_set, HMl.out]; omega) (bl_set hkM hblM (by show bk.length ≤ _; rw [BLS.out]; omega)) W (hca.shs (sv_set hkM (svM W hW) ⟨ak, ck, by show Value.slice _ ls ck = .slice _ bk.length ck; rw [BLS.out], by show bk.length ≤ ck; rw [BLS.out]; exact HCK.out, HBK.out.below hW (Nat.le_refl _)⟩))
            (by rw [dat_set, hMd]; exact law_zero _ N kk (by rw [length_splitL]; exact kkA) bk)
        have CN4 : Hid (∀ W va vc, Below w6.heap.size w6 W → CsS W gn (M.set kk ⟨xk, .slice va (b' ++ [0#8]).length vc, b' ++ [0#8]⟩) → SV W (.slice va (b' ++ [0#8]).length vc) (b' ++ [0#8]) → Calls Try.prog 18 #[.slice (some ⟨gn, 0, none⟩) A capn, .int .i64 N] W fun e w' => e = .returned (.tuple #[.slice none 0 0, .int .i64 40]) ∧ Below W.heap.size W w') := Lib.hid fun W va vc hW hca hsv =>
          comb_none _ _ A capn N (by rw [List.length_set, HMl.out]) n1 (by omega) (by rw [List.length_set, HMl.out]; omega) (bl_set hkM hblM (by show (b' ++ [0#8]).length ≤ _; rw [List.length_append, HL'.out]; simp; omega)) W (hca.shs (sv_set hkM (svM W hW) hsv))
            (by rw [dat_set, hMd]; exact law_long s r N A kk (by omega) kkA xk _ (by rw [List.length_append, HL'.out, ← ES.out]; simp))
        clear hMd hblM hxk hbkD hxj svM
        go_region_law (first | (refine step_copyB2 rfl (.tmp 156) (.tmp 157) rfl S W16 (W16.alloc (.cells #[] 5)).drew S kA.out.2.1 (Nat.le_refl _) kA.out.1 (some ⟨gb, 0, none⟩) b' capb ls HL'.out.symm kA.out.2.2 (by omega) (by omega) (by rw [HSz.out]; rfl) rfl (fun ge cape we hBe hge => ?_); have xe : we.cell? ⟨gl, kk * 2, none⟩ = some (.int .u8 xk.toNat) := ((kF.out we hBe.2.1).bel.cell (hblk PX.out)).trans PX.out; have xe2 : (we.alloc (.cells #[.int .u8 0] 5)).cell? ⟨gl, kk * 2, none⟩ = some (.int .u8 xk.toNat) := ((kF.out _ (BufB.alc hBe (.cells #[.int .u8 0] 5)).2.1).bel.cell (hblk PX.out)).trans PX.out; have HBe := Lib.hid (BufB.alc hBe (.cells #[.int .u8 0] 5)); have hgt := Lib.hid (Row.new we 5 #[.int .u8 (0#8 : BitVec 8).toNat]); clear hBe hge) | (refine step_copyB2 rfl (.tmp 156) (.tmp 157) rfl S W16 ((W16.alloc (.cells #[] 5)).alloc (.cells #[.int .u8 0] 5)).drew S kB.out.2.1 (Nat.le_refl _) kB.out.1 (some ⟨gb, 0, none⟩) b' capb ls HL'.out.symm kB.out.2.2.2 (by omega) (by omega) (by rw [HSz.out]; rfl) rfl (fun ge cape we hBe hge => ?_); have xe : we.cell? ⟨gl, kk * 2, none⟩ = some (.int .u8 xk.toNat) := ((kF.out we hBe.2.1).bel.cell (hblk PX.out)).trans PX.out; have HBe := Lib.hid hBe; have hgt := Lib.hid (Row.grown kB.out.2.2.1 hge (by simp)); rw [HSz.out] at hgt; clear hBe hge) | (refine step_copyB2 rfl (.tmp 156) (.tmp 157) rfl S W16 ((W16.alloc (.cells #[.int .u8 0] 5)).alloc (.cells #[] 5)).drew (S + 1) kC.out.2.1 (Nat.le_succ _) kC.out.1 (some ⟨gb, 0, none⟩) b' capb ls HL'.out.symm kC.out.2.2.2 (by omega) (by omega) (by rw [HSz.out]; rfl) rfl (fun ge cape we hBe hge => ?_); have xe : we.cell? ⟨gl, kk * 2, none⟩ = some (.int .u8 xk.toNat) := ((kF.out we hBe.2.1).bel.cell (hblk PX.out)).trans PX.out; have HBe := Lib.hid hBe; have hgt := Lib.hid (Row.grown kC.out.2.2.1 hge (by simp)); rw [HSz.out] at hgt; clear hBe hge) | (refine step_pushB2 rfl (.tmp 158) (.tmp 159) rfl S _ b' rfl W16 _ _ 0#8 hgt.out HBe.out rfl (by rw [HL'.out]; omega) (fun vf wf hv' hgf => ?_); have hsv := hv'.svx (r := some gn) (fun k hk => by rw [← Option.some.inj hk, HSz.out]; exact HF17.out.hn); obtain ⟨va, vc, ev, _⟩ := id hsv; subst ev; have hFf := kF.out wf hv'.2.1; have xf : wf.cell? ⟨gl, kk * 2, none⟩ = some (.int .u8 xk.toNat) := (hFf.bel.cell (hblk PX.out)).trans PX.out; have nf := hFf.cn kk hkM; have nf1 := nf.1.1; have nf2 := nf.1.2; have nf3 := nf.2.1; have nf4 := nf.2.2; have HFf := Lib.hid hFf; have HSVf := Lib.hid hsv; clear hgf hv' hsv hFf nf))
        all_goals
          obtain ⟨W17, hW17a⟩ : ∃ W, W = wf.setCells gn (kk * 2) [.int .u8 xk.toNat, .slice va (b'.length + 1) vc] := ⟨_, rfl⟩
          refine then_at hW17a ?_
          have hW17 : W17 = wf.setCells gn (kk * 2) [.int .u8 xk.toNat, .slice va (b' ++ [0#8]).length vc] := by rw [hW17a, List.length_append]; rfl
          have F17 : Five w6 gb ga gr gz gn b' (M.set kk ⟨xk, .slice (some ⟨gb, 0, none⟩) ls capb, b'⟩) (M.set kk ⟨xj, .slice aj ls cj, bj⟩) (M.set kk ⟨0#8, .slice ak ls ck, bk⟩) (M.set kk ⟨xk, .slice va (b' ++ [0#8]).length vc, b' ++ [0#8]⟩) W17 := by rw [hW17]; exact HFf.out.setN kk hkM ⟨xk, .slice va (b' ++ [0#8]).length vc, b' ++ [0#8]⟩
          have S17 : SV W17 (.slice va (b' ++ [0#8]).length vc) (b' ++ [0#8]) := by rw [hW17]; exact (SVx.grown HSVf.out (grown_set (grown_set (grown_refl wf (some gn)) (kk * 2) (.int .u8 xk.toNat)) (kk * 2 + 1) (.slice va (b' ++ [0#8]).length vc)) (.inl rfl)).sv
          have HF := Lib.hid F17
          have HS := Lib.hid S17
          have v0 := (HV6.out.below F17.bel HV6.out.lt).cell 0
          simp only [List.getElem?_toArray, List.getElem?_cons_zero, List.getElem?_cons_succ] at v0
          clear F17 S17 hW17 hW17a nf1 nf2 nf3 nf4 xf xe HFf HSVf
          go_wp2_with fail
          refine (CN1.out W17 HF.out.bel HF.out.cb HF.out.ca).mono ?_
          rintro e w18 ⟨rfl, b18⟩
          have F18 := HF.out.below b18
          have HS18 := Lib.hid (HS.out.below b18 (Nat.le_refl _))
          clear HF HS v0
          have HF := Lib.hid F18
          have v0 := (HV6.out.below F18.bel HV6.out.lt).cell 0
          simp only [List.getElem?_toArray, List.getElem?_cons_zero, List.getElem?_cons_succ] at v0
          clear F18 b18
          go_wp2_with fail
          refine (CN2.out w18 HF.out.bel HF.out.cr).mono ?_
          rintro e w19 ⟨rfl, b19⟩
          have F19 := HF.out.below b19
          have HS19 := Lib.hid (HS18.out.below b19 (Nat.le_refl _))
          clear HF HS18 v0
          have HF := Lib.hid F19
          have v0 := (HV6.out.below F19.bel HV6.out.lt).cell 0
          simp only [List.getElem?_toArray, List.getElem?_cons_zero, List.getElem?_cons_succ] at v0
          clear F19 b19
          go_wp2_with fail
          refine (CN3.out w19 HF.out.bel HF.out.cz).mono ?_
          rintro e w20 ⟨rfl, b20⟩
          have F20 := HF.out.below b20
          have HS20 := Lib.hid (HS19.out.below b20 (Nat.le_refl _))
          clear HF HS19 v0
          have HF := Lib.hid F20
          have v0 := (HV6.out.below F20.bel HV6.out.lt).cell 0
          simp only [List.getElem?_toArray, List.getElem?_cons_zero, List.getElem?_cons_succ] at v0
          clear F20 b20
          go_wp2_with fail
          refine (CN4.out w20 va vc HF.out.bel HF.out.cn HS20.out).mono ?_
          rintro e w21 ⟨rfl, b21⟩
          have HF21 := Lib.hid (below_of (below_of Hb6.out HF.out.bel Hb6.out.size) b21 (Nat.le_trans Hb6.out.size HF.out.bel.size))
          clear HF HS20 v0 b21
          go_wp2_with fail
          go_ret
          exact ⟨rfl, HF21.out⟩
end Go.Proofs.Ytpghdiklleedaaa
