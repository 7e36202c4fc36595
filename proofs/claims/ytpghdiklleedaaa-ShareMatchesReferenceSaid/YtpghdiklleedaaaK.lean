/- The contract of Refresh. -/
import Derived.Test.YtpghdiklleedaaaJ
set_option linter.all false
namespace Go.Proofs.Ytpghdiklleedaaa
open Go.RowKit Go.Fen Gf
set_option linter.unusedVariables false
set_option maxHeartbeats 400000

/-- the shares that Refresh makes -/
def refreshL (D : Dat) (r : List (BitVec 8)) (need : Nat) : Dat := D.map fun p => (p.1, maskL p.2 r need p.1)

theorem refresh_bad (a ar : Option Addr) (l c lr cr : Nat) (p : Int) (h : p < 1 ∨ 255 < p) (w : World) :
    Calls Try.prog 20 #[.slice a l c, .slice ar lr cr, .int .i64 p] w fun e w' => e = .returned (.tuple #[.slice none 0 0, .int .i64 1]) ∧ w = w' := by
  by_cases h1 : p < 1
  · have h1' : decide (p < 1) = true := decide_eq_true h1
    clear h
    go_enter Try.func20, Try.ntmps20
    go_wp2
    go_ret2
    exact ⟨rfl, rfl⟩
  · have h1' : decide (p < 1) = false := decide_eq_false h1
    have h3 : 255 < p := by omega
    have h3' : decide (255 < p) = true := decide_eq_true h3
    clear h
    go_enter Try.func20, Try.ntmps20
    go_wp2
    go_ret2
    exact ⟨rfl, rfl⟩

set_option maxHeartbeats 2000000 in
theorem refresh_any (a ar : Option Addr) (L : List Shr) (r : List (BitVec 8)) (c cr need : Nat) (h1 : 1 ≤ need) (h2 : need ≤ 255) (hL : L.length ≤ 1000) (hbl : ∀ i, i < L.length → (L.getD i zs).b.length ≤ 1000000) (hr : r.length ≤ 1000000000) (w : World) (hs : Shs w a L) (B0 : Bs w ar r) :
    Calls Try.prog 20 #[.slice a L.length c, .slice ar r.length cr, .int .i64 need] w fun e w' =>
      (well (dat L) = false ∧ e = .returned (.tuple #[.slice none 0 0, .int .i64 40]) ∨ well (dat L) = true ∧ ∃ gl M, e = .returned (.tuple #[.slice (some ⟨gl, 0, none⟩) L.length L.length, .int .i64 0]) ∧ dat M = refreshL (dat L) r need ∧ M.length = L.length ∧ Shs w' (some ⟨gl, 0, none⟩) M ∧ w.heap.size ≤ gl ∧ Row w' gl 33 (scells M).toArray) ∧ Below w.heap.size w w' := by
  have hord := ordered_any a L c (by omega) w hs
  have h1i : ¬ ((need : Int) < 1) := by omega
  have h2i : ¬ ((255 : Int) < (need : Int)) := by omega
  have h1' : decide ((need : Int) < 1) = false := decide_eq_false h1i
  have h2' : decide ((255 : Int) < (need : Int)) = false := decide_eq_false h2i
  have hm := fun g ab b cb x W (hb : b.length ≤ 1000000) (hT : TB W g) (b1 : Bs W ab b) (b0 : Bs W ar r) => masked_any g ab ar b r cb cr need x h1 h2 hb hr W hT b1 b0
  obtain ⟨n, hn⟩ : ∃ n, n = L.length := ⟨_, rfl⟩
  obtain ⟨lr, hlr⟩ : ∃ n, n = r.length := ⟨_, rfl⟩
  rw [← hlr] at hm ⊢
  rw [← hn] at hord hL ⊢
  have N := Lib.hid hn
  have HM := Lib.hid hm
  have HBL := Lib.hid hbl
  have HS := Lib.hid hs
  have HB0 := Lib.hid B0
  have hmk := run_make_shares n (by omega)
  have nle : (n : Int) ≤ 1000 := by omega
  clear hs hbl hn hlr hm B0 hr
  go_enter Try.func20, Try.ntmps20
  go_wp2_with fail
  refine hord.mono ?_
  rintro e w1 ⟨hcase, hb1⟩
  rcases hcase with ⟨hwf, rfl⟩ | ⟨hwt, a', c', rfl, hc', hsh⟩
  · have Hwf := Lib.hid hwf
    clear hwf
    go_wp2_with fail
    go_ret2
    exact ⟨.inl ⟨Hwf.out, rfl⟩, hb1⟩
  · have Hwt := Lib.hid hwt
    have hn1 := newTables_any w1
    clear hwt hsh hc'
    go_wp2_with fail
    refine hn1.mono ?_
    rintro e w2 ⟨rfl, hT, hb2⟩
    obtain ⟨gt, egt⟩ : ∃ g, g = w1.heap.size := ⟨_, rfl⟩
    rw [← egt] at hT ⊢
    have hwg : w.heap.size ≤ gt := by rw [egt]; exact hb1.size
    have b2 : Below w.heap.size w w2 := hb1.trans (hb2.mono hb1.size)
    clear hb2 egt hn1 hb1
    obtain ⟨gl, egl⟩ : ∃ g, g = w2.heap.size := ⟨_, rfl⟩
    have hTl : gt < gl := by rw [egl]; exact Row.lt hT
    obtain ⟨W3, hW3⟩ : ∃ W, W = w2.alloc (.cells (scells (List.replicate n zs)).toArray 33) := ⟨_, rfl⟩
    have f0 : Fill w.heap.size gl n 0 (refreshL (dat L) r need) w W3 [] := Fill.start (by rw [hW3]; exact Row.new' _ _ egl) (by rw [hW3]; exact b2.alloc b2.size _)
    have T3 : TB W3 gt := by rw [hW3]; exact Row.alloc hT _
    have HW3 := Lib.hid hW3
    have EGL := Lib.hid egl
    clear hW3 egl hT b2
    go_wp2_with fail
    rw [← HW3.out, ← EGL.out]
    clear hmk HW3 EGL
    go_loopw [33] (fun i wr => ∃ k : Nat, k ≤ n ∧ i = .int .i64 k ∧ TB wr gt ∧ ∃ M, Fill w.heap.size gl n k (refreshL (dat L) r need) w wr M) (fun i _ => n - (intOf i).toNat)
    case atStart => exact ⟨0, by omega, rfl, T3, _, f0⟩
    case round =>
      clear f0 T3
      obtain ⟨k, hk, rfl, hT, M, hF⟩ := hrel
      by_cases hkn : k < n
      · have ki : (k : Int) < (n : Int) := by omega
        have hkL : k < L.length := by rw [← N.out]; exact hkn
        obtain ⟨g, o, ea, hc⟩ : ∃ g o, a = some ⟨g, o, none⟩ ∧ ∀ i, i < L.length → w.cell? ⟨g, o + i * 2, none⟩ = some (.int .u8 (L.getD i zs).x.toNat) ∧ w.cell? ⟨g, o + i * 2 + 1, none⟩ = some (L.getD i zs).v := by
          rcases HS.out.cells with h | h
          · rw [h] at hkL; simp at hkL
          · exact h
        subst ea
        obtain ⟨av, cv, ev, hcv, hbs⟩ := HS.out.svs k hkL
        have hgw : g < w.heap.size := block_lt_of_cell (a := ⟨g, o + k * 2, none⟩) (hc k hkL).1
        have hra : Hid (wr.rangeAt g (o + k * 2) [.int .u8 (L.getD k zs).x.toNat, .slice av (L.getD k zs).b.length cv]) := Lib.hid fun i v hv => by
          have hcc := hc k hkL
          rw [ev] at hcc
          match i, hv with
          | 0, hv => simp at hv; subst hv; exact (hF.bel.cell (p := ⟨g, o + k * 2, none⟩) hgw).trans hcc.1
          | 1, hv => simp at hv; subst hv; exact (hF.bel.cell (p := ⟨g, o + k * 2 + 1, none⟩) hgw).trans hcc.2
          | (i + 2), hv => simp at hv
        have hD : Hid ((refreshL (dat L) r need)[k]? = some ((L.getD k zs).x, maskL (L.getD k zs).b r need (L.getD k zs).x)) := Lib.hid (by
          simp [refreshL, dat, hkL, List.getD])
        have hgl : gl < wr.heap.size := hF.row.lt
        obtain ⟨g13, e13⟩ : ∃ g, g = wr.heap.size := ⟨_, rfl⟩
        have hbl := HBL.out k hkL
        generalize (L.getD k zs).x = x at *
        generalize (L.getD k zs).b = b at *
        obtain ⟨lb, hlb⟩ : ∃ d, d = b.length := ⟨_, rfl⟩
        obtain ⟨W4, hW4⟩ : ∃ W, W = wr.alloc (.cells #[.int .u8 x.toNat, .slice av lb cv] 33) := ⟨_, rfl⟩
        have hF4 : Fill w.heap.size gl n k (refreshL (dat L) r need) w W4 M := by rw [hW4]; exact hF.alloc hF.bel.size _
        have T4 : TB W4 gt := by rw [hW4]; exact Row.alloc hT _
        have r13 : Row W4 g13 33 #[.int .u8 x.toNat, .slice av lb cv] := by rw [hW4]; exact Row.new' _ _ e13
        have hcall := HM.out gt av b cv x W4 hbl T4 (hbs.below hF4.bel (Nat.le_refl _)) (HB0.out.below hF4.bel (Nat.le_refl _))
        have hml : (maskL b r need x).length = lb := by rw [length_maskL, hlb]
        have hS := fun (w' : World) (g' : Nat) hg' hr hb => hF4.step (w' := w') hkn (by omega) x (maskL b r need x) g' hD.out hg' hr hb
        rw [hml] at hS
        rw [← hlb] at hcall
        have hgl4 : gl < W4.heap.size := hF4.row.lt
        have hth : ∀ w', Below W4.heap.size W4 w' → w'.there gl (k * 2) 2 := fun w' hb => Row.there2 (hF4.row.below hb hgl4) k (by simp [hF4.len]; omega)
        rw [← hlb] at hra
        have cx := r13.cell 0
        have cw := r13.cell 1
        simp only [List.getElem?_toArray, List.getElem?_cons_zero, List.getElem?_cons_succ] at cx cw
        generalize maskL b r need x = mk at *
        have HC := Lib.hid hcall
        have HSt := Lib.hid hS
        have HTH := Lib.hid hth
        have E13 := Lib.hid e13
        have HW4 := Lib.hid hW4
        have HT4 := Lib.hid T4
        clear hcall hS hF hT hF4 hth e13 hW4 T4 hlb hml hc ev hbs r13
        go_wp2_with (first | ((with_reducible show wpList _ _ _ (Oper.mk _ (Op.load _ _) _ _ _ _ :: _) _ _); refine wpList_load_mid rfl 33 (.tmp 36) rfl g (o + k * 2) rfl [.int .u8 x.toNat, .slice av lb cv] _ hra.out Try.underlying33 rfl Try.n33 ?_) | ((with_reducible show wpList _ _ _ (Oper.mk _ (Op.alloc _) _ _ _ _ :: _) _ _); refine wpList_alloc_row rfl 33 rfl _ Try.z33 g13 E13.out ?_) | ((with_reducible show wpList _ _ _ (Oper.mk _ (Op.store _ _ _) _ _ _ _ :: _) _ _); (refine wpList_put_arr rfl 33 (.tmp 13) (.tmp 37) rfl rfl g13 33 _ #[.int .u8 x.toNat, .slice av lb cv] rfl rfl (Row.new' _ _ E13.out) Try.n33 rfl (one_share _ _ _ _) ?_; rw [setRow_new _ _ _ _ _ E13.out, ← HW4.out])))
        refine HC.out.mono ?_
        rintro e w' ⟨g', rfl, hg', hr', hb'⟩
        have hth' := Lib.hid (HTH.out w' hb')
        go_wp2_with (first | ((with_reducible show wpList _ _ _ (Oper.mk _ (Op.store _ _ _) _ _ _ _ :: _) _ _); refine wpList_store_mid rfl 33 (.tmp 48) (.tmp 47) rfl gl (k * 2) #[.int .u8 x.toNat, .slice (some ⟨g', 0, none⟩) lb lb] rfl rfl hth'.out Try.n33 (one_share _ _ _ _) ?_))
        go_roundw
        case rel => exact ⟨k + 1, by omega, by go_num, Row.setCells_other (HT4.out.below hb' (Row.lt HT4.out)) (by omega) _ _ _, _, HSt.out w' g' hg' hr' hb'⟩
        case measure => simp [intOf] <;> omega
      · have hfin := hF.done (by omega) (by simp [refreshL, length_dat, N.out])
        have hbel := hF.bel
        clear hF
        go_wp2_with fail
        go_ret2
        exact ⟨.inr ⟨Hwt.out, gl, M, rfl, hfin.1, hfin.2.1, hfin.2.2.1, by omega, hfin.2.2.2⟩, hbel⟩
end Go.Proofs.Ytpghdiklleedaaa
