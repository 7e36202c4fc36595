/- Contracts: Row. -/
import Derived.Test.YtkonoojmhjinpaaK2
set_option linter.all false
namespace Go.Proofs.Ytkonoojmhjinpaa
open Go.RowKit Go.Fen
set_option linter.unusedVariables false
set_option maxHeartbeats 4000000

theorem Try.z43 : (Try.prog.info? 43).bind (·.zero) = some (.agg #[.slice none 0 0]) := by kernel_rfl
theorem Try.n43 : (Try.prog.info? 43).map (·.size) = some 1 := by kernel_rfl
theorem Try.info58 : (Try.prog.info? 58).map (fun i => (i.zero, i.size, i.bytes)) = some (some (.agg #[.int .i64 0, .bool false, .int .i64 0, .string ⟨#[]⟩]), 4, 40) := by kernel_rfl
def mkR (v : Value) : Array Value := #[v]
theorem one_row (a : Option Addr) (n c : Nat) : (#[Value.slice a n c]).all (·.oneCell') = true := by simp [Value.oneCell']
/-- a row is returned, its cells fewer than m -/
def RetRow (m : Nat) (e : Ending) (w : World) : Prop := ∃ v R, e = .returned (.agg #[v]) ∧ R.length ≤ m ∧ Rw w v R
set_option maxRecDepth 20000 in
theorem row_any (m : Nat) (v : Value) (a2 : Option Addr) (V : List Vl) (n2 c2 : Nat) (w : World) (hm : m ≤ 1000) (hS : Sch m w v) (hn2 : n2 = V.length) (h26 : n2 ≤ 9223372036854775807) (hV : Ls 3 vlc w a2 V) : Calls Try.prog 48 #[v, .slice a2 n2 c2] w fun e w' => RetRow m e w' ∧ Below w.heap.size w w' := by
  obtain ⟨a, F, c, nx, rfl, hF, hL⟩ := hS
  obtain ⟨n, hn⟩ : ∃ n, n = F.length := ⟨_, rfl⟩
  rw [← hn]
  have n6 : n ≤ 1000 := by omega
  obtain ⟨g, eg⟩ : ∃ g, g = w.heap.size := ⟨_, rfl⟩
  obtain ⟨W0, hW0⟩ : ∃ W, W = w.alloc (.cells #[.slice a n c, .int .i64 nx] 31) := ⟨_, rfl⟩
  obtain ⟨W1, hW1⟩ : ∃ W, W = W0.alloc (.cells #[.slice none 0 0] 43) := ⟨_, rfl⟩
  obtain ⟨V0, hV0⟩ : ∃ W, W = W1.alloc (.cells #[.slice none 0 0] 43) := ⟨_, rfl⟩
  have z0 : W0.heap.size = g + 1 := by rw [hW0, eg]; simp
  have z1 : W1.heap.size = g + 1 + 1 := by rw [hW1, World.size_alloc, z0]
  have zv : V0.heap.size = g + 1 + 1 + 1 := by rw [hV0, World.size_alloc, z1]
  have hb1 : Below w.heap.size w W1 := by rw [hW1, hW0]; exact ((Below.refl _ _).alloc (Nat.le_refl _) _).alloc (by simp) _
  have hb : Below w.heap.size w V0 := by rw [hV0]; exact hb1.alloc (by rw [z1, ← eg]; omega) _
  have R0 : Row W1 g 31 #[.slice a n c, .int .i64 nx] := by rw [hW1, hW0, eg]; exact (Row.new w 31 _).alloc _
  have V0R0 : Row V0 g 31 #[.slice a n c, .int .i64 nx] := by rw [hV0]; exact R0.alloc _
  have V0R1 : Row V0 (g + 1) 43 #[.slice none 0 0] := by rw [hV0, hW1]; exact (Row.new' 43 _ z0.symm).alloc _
  have A0 : AccG V0 (g + 1 + 1) 43 mkR 58 4 (.slice none 0 0) 0 (([] : List Cl).flatMap clc) V0 := ⟨World.ownsRow_nil _ _ _ _, by rw [hV0]; exact Row.new' 43 _ z1.symm, grown_refl _ _⟩
  have HW0 := Lib.hid hW0
  have HW1 := Lib.hid hW1
  have HV0 := Lib.hid hV0
  have EG := Lib.hid eg
  have Z0 := Lib.hid z0
  have Z1 := Lib.hid z1
  have ZV := Lib.hid zv
  have HB := Lib.hid hb
  have HL := Lib.hid hL
  have HN := Lib.hid hn
  have HF := Lib.hid hF
  have HN2 := Lib.hid hn2
  have HVL := Lib.hid hV
  have HR0 := Lib.hid V0R0
  have HR1 := Lib.hid V0R1
  have HA0 := Lib.hid A0
  clear hW0 hW1 hV0 eg z0 z1 zv hb hb1 R0 V0R0 V0R1 A0 hL hn hF hn2 hV
  go_enter Try.func48, Try.ntmps48
  go_wp2_with (first | ((with_reducible show wpList _ _ _ (Oper.mk _ (Op.box _ _) _ _ _ _ :: _) _ _); (refine wpList_box_row rfl 31 (.tmp 0) rfl _ rfl g EG.out ?_; refine wpList_atE HW0.out ?_)) | ((with_reducible show wpList _ _ _ (Oper.mk _ (Op.alloc _) _ _ _ _ :: _) _ _); (first | (refine wpList_alloc_row rfl 43 rfl #[.slice none 0 0] Try.z43 (g + 1) Z0.out.symm ?_; refine wpList_atE HW1.out ?_) | (refine wpList_new_row rfl rfl 43 5 (.tmp 9) rfl rfl rfl rfl (g + 1 + 1) Z1.out.symm #[.slice none 0 0] rfl rfl _ Try.z43 Try.n43 rfl (one_row _ _ _) ?_; refine wpList_atE HV0.out ?_))))
  go_loopw [6, 7, 8] (fun iv _ _ wr => ∃ (k : Nat) (u : Value) (R : List Cl), k ≤ n ∧ R.length ≤ k ∧ iv = .int .i64 k ∧ AccG V0 (g + 1 + 1) 43 mkR 58 4 u R.length (R.flatMap clc) wr) (fun iv _ _ _ => n - (intOf iv).toNat)
  case atStart => exact ⟨0, _, [], by omega, by simp, rfl, HA0.out⟩
  case round =>
    obtain ⟨k, u, R, hk, hRk, rfl, hA⟩ := hrel
    have HA := Lib.hid hA
    have BA := hA.bel (B := g + 1 + 1) (Nat.le_refl _) (by have := ZV.out; omega)
    have BW : Below w.heap.size w wr := HB.out.trans (BA.mono (by rw [← EG.out]; omega))
    have k0 : wr.cell? ⟨g, 0, none⟩ = some (.slice a n c) := (HR0.out.below BA (by omega)).cell 0
    have HBW := Lib.hid BW
    have HRK := Lib.hid hRk
    have HR0w := Lib.hid (HR0.out.below BA (by omega))
    have HR1w := Lib.hid (HR1.out.below BA (by omega))
    have k5 : wr.cell? ⟨g + 1 + 1, 0, none⟩ = some u := hA.2.1.cell 0
    obtain ⟨au, cu, eu⟩ := owns_form hA.1
    have HONE := Lib.hid (show (#[u] : Array Value).all (·.oneCell') = true by rw [eu]; exact one_row _ _ _)
    clear eu
    by_cases hkk : k < n ∧ k < n2
    case neg =>
      have HRm := Lib.hid (show R.length ≤ m by have := HN.out; have := HF.out; omega)
      have HZ := Lib.hid (fun cs => ls_put (α := Cl) length_clc hA.1 (show g + 1 < V0.heap.size by have := ZV.out; omega) cs)
      have HZ2 := Lib.hid (fun cs => lt_put (α := Cl) length_clc hA.1 (show g + 1 < V0.heap.size by have := ZV.out; omega) cs)
      have HBP := Lib.hid (fun cs => below_putRow BW (show w.heap.size ≤ g + 1 by rw [← EG.out]; omega) cs)
      have hw : (¬ (k : Int) < (n : Int)) ∨ ((k : Int) < (n : Int) ∧ ¬ (k : Int) < (n2 : Int)) := by omega
      clear hkk hk hRk BA BW hA
      rcases hw with ki | ⟨ki, ki2⟩
      all_goals
        go_wp2_with (first | ((with_reducible show wpList _ _ _ (Oper.mk _ (Op.load _ _) _ _ _ _ :: _) _ _); refine wpList_load_mid rfl 43 (.tmp 5) rfl (g + 1 + 1) 0 rfl [u] _ (by intro j v hv; rw [Nat.zero_add]; exact (HA.out.2.1.cell j).trans (by simpa [mkR] using hv)) Try.underlying43 rfl Try.n43 ?_) | ((with_reducible show wpList _ _ _ (Oper.mk _ (Op.store _ _ _) _ _ _ _ :: _) _ _); refine wpList_put_arr rfl 43 (.tmp 4) (.tmp 57) rfl rfl (g + 1) 43 _ #[u] rfl rfl HR1w.out Try.n43 rfl HONE.out ?_))
        try simp only [Exit.inBlock, Exit.then]
        refine bodyPost_ret (results_cell_row (p := 4) (ty := 43) rfl _ _ (g + 1) 43 #[u] (0, 0) _ rfl (Row.setRow HR1w.out _) Try.underlying43 rfl Try.n43) rfl ?_
        obtain ⟨ax, cx, ev, hls⟩ := HZ2.out #[u]
        exact ⟨⟨u, R, rfl, HRm.out, ax, cx, ev, hls⟩, HBP.out _⟩
    obtain ⟨hk1, hk2⟩ := hkk
    have ki : (k : Int) < (n : Int) := by omega
    have ki2 : (k : Int) < (n2 : Int) := by omega
    obtain ⟨gf, of, rfl, hgf, hc⟩ := HL.out.some (by rw [← HN.out]; omega)
    obtain ⟨e, he⟩ : ∃ f, F[k]? = some f := ⟨_, List.getElem?_eq_getElem (by rw [← HN.out]; exact hk1)⟩
    have hr := range_below (hc k e he) BW hgf
    obtain ⟨gr, or, rfl, hgr, hc2⟩ := HVL.out.some (by rw [← HN2.out]; omega)
    obtain ⟨x, hx⟩ : ∃ f, V[k]? = some f := ⟨_, List.getElem?_eq_getElem (by rw [← HN2.out]; exact hk2)⟩
    have hr2 : ∀ X, Below wr.heap.size wr X → X.rangeAt gr (or + k * 3) (vlc x) := fun X hX => range_below (hc2 k x hx) (BW.trans (hX.mono BW.size)) hgr
    obtain ⟨g7, hg7⟩ : ∃ x, x = wr.heap.size := ⟨_, rfl⟩
    obtain ⟨W3, hW3⟩ : ∃ W, W = wr.alloc (.cells (flc e).toArray 126) := ⟨_, rfl⟩
    have b3 : Below wr.heap.size wr W3 := by rw [hW3]; exact (Below.refl _ _).alloc (Nat.le_refl _) _
    have R3 : Row W3 g7 126 (flc e).toArray := by rw [hW3]; exact Row.new' 126 _ hg7
    have HA3 := Lib.hid (HA.out.call b3)
    have r2 : W3.cell? ⟨g7, 2, none⟩ = some (.int .i64 e.ty) := R3.cell 2
    have n0 : W3.cell? ⟨gr, or + k * 3, none⟩ = some (.bool x.b) := by have := hr2 W3 b3 0 _ rfl; rw [Nat.add_zero] at this; exact this
    have HR := Lib.hid hr
    have HR2 := Lib.hid (fun X (h : Below W3.heap.size W3 X) => hr2 X (bel_tr b3 h))
    have HR3 := Lib.hid (fun X (h : Below W3.heap.size W3 X) => R3.below h R3.lt)
    have HKN := Lib.hid hk1
    have HG7 := Lib.hid hg7
    have HW3 := Lib.hid hW3
    have HGR := Lib.hid (show gr < W3.heap.size from Nat.lt_of_lt_of_le hgr (Nat.le_trans BW.size b3.size))
    have HGG := Lib.hid (show g7 < W3.heap.size from R3.lt)
    clear hc he hgf hr hc2 hx hr2 hgr hg7 hW3 b3 R3 hk1 hk2 hk hRk BA BW hA
    by_cases t6 : e.ty = 6
    · have d6 : (e.ty == 6) = true := by simp [t6]
      clear t6
      go_wp2_with (first | ((with_reducible show wpList _ _ _ (Oper.mk _ (Op.load _ _) _ _ _ _ :: _) _ _); refine wpList_load_mid rfl 126 (.tmp 26) rfl gf (of + k * 4) rfl (flc e) _ HR.out Try.underlying126 rfl Try.n126 ?_) | ((with_reducible show wpList _ _ _ (Oper.mk _ (Op.alloc _) _ _ _ _ :: _) _ _); (refine wpList_new_row rfl rfl 126 7 (.tmp 27) rfl rfl rfl rfl g7 HG7.out (flc e).toArray rfl rfl _ Try.z126 Try.n126 rfl (one_fl e) ?_; refine wpList_atE HW3.out ?_)))
      go_roundw
      case rel => exact ⟨k + 1, u, R, HKN.out, by have := HRK.out; omega, by go_num, HA3.out⟩
      case measure => have := HKN.out; simp [intOf] <;> omega
    have d6 : (e.ty == 6) = false := by simp [t6]
    clear t6
    cases hxb : x.b with
    | true =>
      rw [hxb] at n0
      clear hxb
      go_wp2_with (first | ((with_reducible show wpList _ _ _ (Oper.mk _ (Op.load _ _) _ _ _ _ :: _) _ _); refine wpList_load_mid rfl 126 (.tmp 26) rfl gf (of + k * 4) rfl (flc e) _ HR.out Try.underlying126 rfl Try.n126 ?_) | ((with_reducible show wpList _ _ _ (Oper.mk _ (Op.alloc _) _ _ _ _ :: _) _ _); (refine wpList_new_row rfl rfl 126 7 (.tmp 27) rfl rfl rfl rfl g7 HG7.out (flc e).toArray rfl rfl _ Try.z126 Try.n126 rfl (one_fl e) ?_; refine wpList_atE HW3.out ?_)))
      go_roundw
      case rel => exact ⟨k + 1, u, R, HKN.out, by have := HRK.out; omega, by go_num, HA3.out⟩
      case measure => have := HKN.out; simp [intOf] <;> omega
    | false =>
      rw [hxb] at n0
      have HKEEP := Lib.hid (fun X (h : Below W3.heap.size W3 X) => (⟨by have := HR2.out X h 0 _ rfl; rw [Nat.add_zero, hxb] at this; exact this, HR2.out X h 1 _ rfl, HR2.out X h 2 _ rfl, (HR3.out X h).cell 2⟩ :
        X.cell? ⟨gr, or + k * 3, none⟩ = some (.bool false) ∧ X.cell? ⟨gr, or + k * 3 + 1, none⟩ = some (.int .i64 x.n) ∧ X.cell? ⟨gr, or + k * 3 + 2, none⟩ = some (.string x.s) ∧ X.cell? ⟨g7, 2, none⟩ = some (.int .i64 e.ty)))
      have HC := Lib.hid (fun X (h : Below W3.heap.size W3 X) => vmade_any x e.ty X)
      rw [show (vlc x).toArray = #[.bool false, .int .i64 x.n, .string x.s] by rw [vlc, hxb]] at HC
      clear hxb
      go_wp2_with (first | ((with_reducible show wpList _ _ _ (Oper.mk _ (Op.load _ _) _ _ _ _ :: _) _ _); refine wpList_load_mid rfl 126 (.tmp 26) rfl gf (of + k * 4) rfl (flc e) _ HR.out Try.underlying126 rfl Try.n126 ?_) | ((with_reducible show wpList _ _ _ (Oper.mk _ (Op.alloc _) _ _ _ _ :: _) _ _); (refine wpList_new_row rfl rfl 126 7 (.tmp 27) rfl rfl rfl rfl g7 HG7.out (flc e).toArray rfl rfl _ Try.z126 Try.n126 rfl (one_fl e) ?_; refine wpList_atE HW3.out ?_)))
      obtain ⟨A, hA⟩ : ∃ A, A = Obj.cells #[.bool false, .int .i64 0, .string ⟨#[]⟩] 56 := ⟨_, rfl⟩
      have bA : Below W3.heap.size W3 (W3.alloc A).drew := below_drewN ((Below.refl _ _).alloc (Nat.le_refl _) _) 1
      have rA : Row (W3.alloc A).drew W3.heap.size 56 #[.bool false, .int .i64 0, .string ⟨#[]⟩] := by rw [hA]; exact (Row.new _ _ _).drew
      have HBA := Lib.hid bA
      have HRA := Lib.hid rA
      have nn7 : ¬ g7 = W3.heap.size := by have := HGG.out; omega
      have nnr : ¬ gr = W3.heap.size := by have := HGR.out; omega
      have mm7 : ¬ W3.heap.size = g7 := by omega
      have mmr : ¬ W3.heap.size = gr := by omega
      have HC2 := Lib.hid (fun X (h : Below W3.heap.size W3 X) => (HC.out X h).mono (R' := fun e X' => (∃ y : Vl, e = .returned (.agg #[.bool y.b, .int .i64 y.n, .string y.s])) ∧ Below X.heap.size X X') (fun e X' hh => hh))
      clear HC bA rA
      subst hA
      obtain ⟨x0, x1, x2, x3⟩ := HKEEP.out W3 (Below.refl _ _)
      clear n0 r2
      go_region_held3 (fun X => X.cell? ⟨gr, or + k * 3, none⟩ = some (.bool false) ∧ X.cell? ⟨gr, or + k * 3 + 1, none⟩ = some (.int .i64 x.n) ∧ X.cell? ⟨gr, or + k * 3 + 2, none⟩ = some (.string x.s) ∧ X.cell? ⟨g7, 2, none⟩ = some (.int .i64 e.ty)) (go_keep) (first | (go_simp; go_at_call 67; refine (HC2.out _ (below_drewN (Below.refl _ _) 1)).mono ?_; rintro e w5 ⟨⟨y, rfl⟩, b5⟩; have HX := Lib.hid ((below_drewN (Below.refl W3.heap.size W3) 1).trans b5); have kk := HKEEP.out w5 HX.out; clear b5) | (go_simp; go_at_call 67; refine (HC2.out _ HBA.out).mono ?_; rintro e w5 ⟨⟨y, rfl⟩, b5⟩; have HX := Lib.hid (bel_tr HBA.out b5); have HRA5 := Lib.hid (HRA.out.below b5 HRA.out.lt); have kk := HKEEP.out w5 HX.out; clear b5; have p0 : w5.cell? ⟨W3.heap.size, 0, none⟩ = some (.bool false) := HRA5.out.cell 0; have f0 := HRA5.out.frozen 0; have p1 : w5.cell? ⟨W3.heap.size, 1, none⟩ = some (.int .i64 0) := HRA5.out.cell 1; have f1 := HRA5.out.frozen 1; have p2 : w5.cell? ⟨W3.heap.size, 2, none⟩ = some (.string ⟨#[]⟩) := HRA5.out.cell 2; have f2 := HRA5.out.frozen 2))
      all_goals
        obtain ⟨gv, W7, egv, eW, hr7, hb7⟩ : ∃ gv W7, Value.pointer (some ⟨gv, 0, none⟩) = _ ∧ W7 = _ ∧ Row W7 gv 56 #[.bool y.b, .int .i64 y.n, .string y.s] ∧ Below W3.heap.size W3 W7 := by
          first
            | exact ⟨_, _, rfl, rfl, (((HRA5.out.set 0 _).set 1 _).set 2 _), (((HX.out.setCell (p := ⟨W3.heap.size, 0, none⟩) (Nat.le_refl _) _).setCell (p := ⟨W3.heap.size, 1, none⟩) (Nat.le_refl _) _).setCell (p := ⟨W3.heap.size, 2, none⟩) (Nat.le_refl _) _)⟩
            | exact ⟨_, _, rfl, rfl, Row.new _ _ _, HX.out.alloc HX.out.size _⟩
        rw [← egv, ← eW]
        clear egv eW kk
        try clear p0 p1 p2 f0 f1 f2
        clear x0 x1 x2 x3
        have HA7 := Lib.hid (HA3.out.call hb7)
        have HR7 := Lib.hid hr7
        have y0 : W7.cell? ⟨gv, 0, none⟩ = some (.bool y.b) := hr7.cell 0
        have t0 : W7.cell? ⟨g7, 0, none⟩ = some (.int .i64 e.id) := (HR3.out _ hb7).cell 0
        have t5 : W7.cell? ⟨g + 1 + 1, 0, none⟩ = some u := HA7.out.2.1.cell 0
        clear hr7 hb7
        cases hyb : y.b with
        | true =>
          rw [hyb] at y0
          clear hyb
          go_wp2_with fail
          go_roundw
          case rel => exact ⟨k + 1, u, R, HKN.out, by have := HRK.out; omega, by go_num, HA7.out⟩
          case measure => have := HKN.out; simp [intOf] <;> omega
        | false =>
          rw [hyb] at y0
          have HR7b := Lib.hid (show Row W7 gv 56 #[.bool false, .int .i64 y.n, .string y.s] by have := HR7.out; rw [hyb] at this; exact this)
          clear hyb
          go_wp2_with (first | ((with_reducible show wpList _ _ _ (Oper.mk _ (Op.load _ _) _ _ _ _ :: _) _ _); (refine wpList_load_row rfl 56 (.tmp 8) rfl gv rfl 56 #[.bool false, .int .i64 y.n, .string y.s] (0, 0) _ HR7b.out Try.underlying56 rfl Try.n56 ?_)) | ((with_reducible show wpList _ _ _ (Oper.mk _ (Op.call _) _ _ _ _ :: _) _ _); (refine wpList_pushK rfl (.tmp 49) (.tmp 54) 41 58 rfl _ 4 40 Try.underlying41 Try.info58 rfl (by decide) (by decide) V0.heap.size u R.length (R.flatMap clc) rfl W7 _ (clc (Cl.mk e.id (Vl.mk false y.n y.s))) rfl (one_clc _) rfl HA7.out.1 HA7.out.2.2.size W7.heap.size rfl rfl (by have := HRK.out; have := HKN.out; omega) (fun ge ce w2 hv' hg => ?_); obtain ⟨hrow, hAF⟩ := AccG.push HA7.out (by have := ZV.out; omega) ((Below.refl _ _).alloc (Nat.le_refl _) _) hv' hg 0 rfl; have z3 : w2.cell? ⟨g + 1 + 1, 0, none⟩ = some u := hrow.cell 0; have z4 := hrow.frozen 0; have HAF := Lib.hid hAF; clear hAF hrow hv' hg)))
          go_roundw
          case rel => exact ⟨k + 1, _, R ++ [Cl.mk e.id (Vl.mk false y.n y.s)], HKN.out, by have := HRK.out; simp; omega, by go_num, by rw [List.length_append, ← fl_snoc]; exact HAF.out⟩
          case measure => have := HKN.out; simp [intOf] <;> omega
end Go.Proofs.Ytkonoojmhjinpaa
