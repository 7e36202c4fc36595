/- Contracts: with. -/
import Derived.Test.YtkonoojmhjinpaaK1
set_option linter.all false
namespace Go.Proofs.Ytkonoojmhjinpaa
open Go.RowKit Go.Fen
set_option linter.unusedVariables false
set_option maxHeartbeats 4000000

set_option maxRecDepth 20000 in
theorem with_any (m : Nat) (v : Value) (f : Fl) (w : World) (hm : m ≤ 1000) (hS : Sch m w v) : Calls Try.prog 64 #[v, .agg (flc f).toArray] w fun e w' => RetSch m e w' ∧ Below w.heap.size w w' := by
  obtain ⟨a, F, c, nx, rfl, hF, hL⟩ := hS
  obtain ⟨n, hn⟩ : ∃ n, n = F.length := ⟨_, rfl⟩
  rw [← hn]
  have n6 : n ≤ 1000 := by omega
  obtain ⟨g, eg⟩ : ∃ g, g = w.heap.size := ⟨_, rfl⟩
  obtain ⟨W0, hW0⟩ : ∃ W, W = w.alloc (.cells #[.slice a n c, .int .i64 nx] 31) := ⟨_, rfl⟩
  obtain ⟨W1, hW1⟩ : ∃ W, W = W0.alloc (.cells (flc f).toArray 126) := ⟨_, rfl⟩
  obtain ⟨W2, hW2⟩ : ∃ W, W = W1.alloc (.cells #[.slice none 0 0, .int .i64 0] 31) := ⟨_, rfl⟩
  obtain ⟨V0, hV0⟩ : ∃ W, W = W2.alloc (.cells #[.slice none 0 0, .int .i64 nx] 31) := ⟨_, rfl⟩
  have z0 : W0.heap.size = g + 1 := by rw [hW0, eg]; simp
  have z1 : W1.heap.size = g + 1 + 1 := by rw [hW1, World.size_alloc, z0]
  have z2 : W2.heap.size = g + 1 + 1 + 1 := by rw [hW2, World.size_alloc, z1]
  have zv : V0.heap.size = g + 1 + 1 + 1 + 1 := by rw [hV0, World.size_alloc, z2]
  have hb2 : Below w.heap.size w W2 := by rw [hW2, hW1, hW0]; exact (((Below.refl _ _).alloc (Nat.le_refl _) _).alloc (by simp) _).alloc (by simp <;> omega) _
  have hb : Below w.heap.size w V0 := by rw [hV0]; exact hb2.alloc (by rw [z2, ← eg]; omega) _
  have R0 : Row W2 g 31 #[.slice a n c, .int .i64 nx] := by rw [hW2, hW1, hW0, eg]; exact ((Row.new w 31 _).alloc _).alloc _
  have V0R0 : Row V0 g 31 #[.slice a n c, .int .i64 nx] := by rw [hV0]; exact R0.alloc _
  have V0R1 : Row V0 (g + 1) 126 (flc f).toArray := by rw [hV0, hW2, hW1]; exact ((Row.new' 126 _ z0.symm).alloc _).alloc _
  have V0R2 : Row V0 (g + 1 + 1) 31 #[.slice none 0 0, .int .i64 0] := by rw [hV0, hW2]; exact (Row.new' 31 _ z1.symm).alloc _
  have A0 : AccG V0 (g + 1 + 1 + 1) 31 (mkS nx) 126 4 (.slice none 0 0) 0 (([] : List Fl).flatMap flc) V0 := ⟨World.ownsRow_nil _ _ _ _, by rw [hV0]; exact Row.new' 31 _ z2.symm, grown_refl _ _⟩
  have k0 := R0.cell 0
  have k1 := R0.cell 1
  simp only [List.getElem?_toArray, List.getElem?_cons_zero, List.getElem?_cons_succ] at k0 k1
  have HW0 := Lib.hid hW0
  have HW1 := Lib.hid hW1
  have HW2 := Lib.hid hW2
  have HV0 := Lib.hid hV0
  have EG := Lib.hid eg
  have Z0 := Lib.hid z0
  have Z1 := Lib.hid z1
  have Z2 := Lib.hid z2
  have ZV := Lib.hid zv
  have HB := Lib.hid hb
  have HL := Lib.hid hL
  have HN := Lib.hid hn
  have HF := Lib.hid hF
  have HR0 := Lib.hid V0R0
  have HR1 := Lib.hid V0R1
  have HR2 := Lib.hid V0R2
  have HA0 := Lib.hid A0
  clear hW0 hW1 hW2 hV0 eg z0 z1 z2 zv hb hb2 R0 V0R0 V0R1 V0R2 A0 hL hn hF
  go_enter Try.func64, Try.ntmps64
  go_wp2_with (first | ((with_reducible show wpList _ _ _ (Oper.mk _ (Op.box _ _) _ _ _ _ :: _) _ _); (first | (refine wpList_box_row rfl 31 (.tmp 0) rfl _ rfl g EG.out ?_; refine wpList_atE HW0.out ?_) | (refine wpList_box_row rfl 126 (.tmp 1) rfl _ rfl (g + 1) Z0.out.symm ?_; refine wpList_atE HW1.out ?_))) | ((with_reducible show wpList _ _ _ (Oper.mk _ (Op.alloc _) _ _ _ _ :: _) _ _); (first | (refine wpList_alloc_row rfl 31 rfl #[.slice none 0 0, .int .i64 0] Try.z31 (g + 1 + 1) Z1.out.symm ?_; refine wpList_atE HW2.out ?_) | (refine wpList_new_row rfl rfl 31 5 (.tmp 9) rfl rfl rfl rfl (g + 1 + 1 + 1) Z2.out.symm #[.slice none 0 0, .int .i64 nx] rfl rfl _ Try.z31 Try.n31 rfl (one_sch _ _ _ _) ?_; refine wpList_atE HV0.out ?_))))
  clear k0 k1
  go_loopw [6] (fun iv wr => ∃ (k : Nat) (u : Value) (L : List Fl), k ≤ n ∧ L.length ≤ k ∧ iv = .int .i64 k ∧ AccG V0 (g + 1 + 1 + 1) 31 (mkS nx) 126 4 u L.length (L.flatMap flc) wr) (fun iv _ => n - (intOf iv).toNat)
  case atStart => exact ⟨0, _, [], by omega, by simp, rfl, HA0.out⟩
  case round =>
    obtain ⟨k, u, L, hk, hLk, rfl, hA⟩ := hrel
    have HA := Lib.hid hA
    have BA := hA.bel (B := g + 1 + 1 + 1) (Nat.le_refl _) (by have := ZV.out; omega)
    have BW : Below w.heap.size w wr := HB.out.trans (BA.mono (by rw [← EG.out]; omega))
    have k0 := (HR0.out.below BA (by omega)).cell 0
    have kf : wr.cell? ⟨g + 1, 0, none⟩ = some (.int .i64 f.id) := (HR1.out.below BA (by omega)).cell 0
    simp only [List.getElem?_toArray, List.getElem?_cons_zero] at k0
    have k3 : wr.cell? ⟨g + 1 + 1 + 1, 0, none⟩ = some u := hA.2.1.cell 0
    have HBW := Lib.hid BW
    have k3a : ∀ (q : Nat) (o : Obj), ((wr.drewN q).alloc o).cell? ⟨g + 1 + 1 + 1, 0, none⟩ = some u := fun q o => (((below_drewN (Below.refl wr.heap.size wr) q).alloc (Nat.le_refl _) o).cell (p := ⟨g + 1 + 1 + 1, 0, none⟩) hA.2.1.lt).trans k3
    by_cases hkn : k < n
    · have ki : (k : Int) < (n : Int) := by omega
      obtain ⟨gf, of, rfl, hgf, hc⟩ := HL.out.some (by rw [← HN.out]; omega)
      have hlt : k < F.length := by rw [← HN.out]; exact hkn
      obtain ⟨e, hf⟩ : ∃ f, F[k]? = some f := ⟨_, List.getElem?_eq_getElem hlt⟩
      have hr := range_below (hc k e hf) BW (by rw [← EG.out]; rw [← EG.out] at hgf; exact hgf)
      have c0 : wr.cell? ⟨gf, of + k * 4, none⟩ = some (.int .i64 e.id) := by have := hr 0 _ rfl; rw [Nat.add_zero] at this; exact this
      have c1 : wr.cell? ⟨gf, of + k * 4 + 1, none⟩ = some (.string e.nm) := hr 1 _ rfl
      have c2 : wr.cell? ⟨gf, of + k * 4 + 2, none⟩ = some (.int .i64 e.ty) := hr 2 _ rfl
      have c3 : wr.cell? ⟨gf, of + k * 4 + 3, none⟩ = some (.int .i64 e.pa) := hr 3 _ rfl
      have HR := Lib.hid hr
      have HKN := Lib.hid hkn
      have HLK := Lib.hid hLk
      clear hc hlt hf hr hkn hk hgf BA BW hA hLk
      by_cases e0 : e.id = f.id
      · have e1 : (e.id == f.id) = true := by simp [e0]
        clear e0
        have R1w := Lib.hid (HR1.out.below (HA.out.bel (B := g + 1 + 1 + 1) (Nat.le_refl _) (by have := ZV.out; omega)) (by omega))
        go_wp2_with fail
        go_quiet (fail)
        have HA2 := Lib.hid (HA.out.drewN nq)
        go_wp2_with (first | ((with_reducible show wpList _ _ _ (Oper.mk _ (Op.load _ _) _ _ _ _ :: _) _ _); refine wpList_load_mid rfl 126 (.tmp 3) rfl (g + 1) 0 rfl [.int .i64 f.id, .string f.nm, .int .i64 f.ty, .int .i64 f.pa] _ (by intro j u hu; rw [Nat.zero_add]; exact (R1w.out.cell j).trans (by simpa [flc] using hu)) Try.underlying126 rfl Try.n126 ?_) | ((with_reducible show wpList _ _ _ (Oper.mk _ (Op.call _) _ _ _ _ :: _) _ _); (refine wpList_pushK rfl (.tmp 27) (.tmp 29) 29 126 rfl _ 4 40 Try.underlying29 Try.info126 rfl (by decide) (by decide) V0.heap.size u L.length (L.flatMap flc) rfl (wr.drewN nq) _ (flc f) rfl (one_fls f) rfl HA2.out.1 HA2.out.2.2.size wr.heap.size rfl rfl (by have := HLK.out; omega) (fun ge ce w' hv' hg => ?_); obtain ⟨hrow, hAF⟩ := AccG.push HA2.out (by have := ZV.out; omega) ((Below.refl _ _).alloc (Nat.le_refl _) _) hv' hg 0 rfl; have z3 : w'.cell? ⟨g + 1 + 1 + 1, 0, none⟩ = some u := hrow.cell 0; have z4 := hrow.frozen 0; have HAF := Lib.hid hAF; clear hAF hrow hv' hg)))
        go_roundw
        case rel => exact ⟨k + 1, _, L ++ [f], HKN.out, by have := HLK.out; simp; omega, by go_num, by rw [List.length_append, ← fl_snoc]; exact HAF.out⟩
        case measure => have := HKN.out; simp [intOf] <;> omega
      · have e1 : (e.id == f.id) = false := by simp [e0]
        clear e0
        go_wp2_with fail
        go_quiet (fail)
        go_wp2_with fail
        have HA2 := Lib.hid (HA.out.drewN nq)
        go_region_law (refine step_pushK rfl (.tmp 33) (.tmp 39) 29 126 rfl _ 4 40 Try.underlying29 Try.info126 rfl (by decide) (by decide) V0.heap.size u L.length (L.flatMap flc) rfl (wr.drewN nq).drew _ (flc e) rfl (one_fls e) rfl (HA2.out.drewN 1).1 (HA2.out.drewN 1).2.2.size wr.heap.size rfl rfl (by have := HLK.out; omega) (fun ge ce w' hv' hg => ?_); obtain ⟨hrow, hAF⟩ := AccG.push (HA2.out.drewN 1) (by have := ZV.out; omega) ((Below.refl _ _).alloc (Nat.le_refl _) _) hv' hg 0 rfl; have z3 : w'.cell? ⟨g + 1 + 1 + 1, 0, none⟩ = some u := hrow.cell 0; have z4 := hrow.frozen 0; have HAF := Lib.hid hAF; clear hAF hrow hv' hg)
        all_goals
          go_wp2_with fail
          go_roundw
          case rel => exact ⟨k + 1, _, L ++ [e], HKN.out, by have := HLK.out; simp; omega, by go_num, by rw [List.length_append, ← fl_snoc]; exact HAF.out⟩
          case measure => have := HKN.out; simp [intOf] <;> omega
    · have ki : ¬ (k : Int) < (n : Int) := by omega
      have k31 : wr.cell? ⟨g + 1 + 1 + 1, 1, none⟩ = some (.int .i64 nx) := hA.2.1.cell 1
      have HR2w := Lib.hid (HR2.out.below BA (by omega))
      have HOW := Lib.hid hA.1
      obtain ⟨au, cu, eu⟩ := owns_form hA.1
      have HONE := Lib.hid (one_v u nx au _ cu eu)
      clear eu
      have HBP := Lib.hid (fun cs => below_putRow BW (show w.heap.size ≤ g + 1 + 1 by rw [← EG.out]; omega) cs)
      have HLL := Lib.hid (show L.length ≤ m by have := HN.out; have := HF.out; omega)
      have hLk1 : L.length ≤ 1000000 := by omega
      have hg2 : g + 1 + 1 < V0.heap.size := by have := ZV.out; omega
      have HG2 := Lib.hid hg2
      clear hLk hk hkn BA BW hA hLk1 hg2
      go_wp2_with (first | ((with_reducible show wpList _ _ _ (Oper.mk _ (Op.load _ _) _ _ _ _ :: _) _ _); refine wpList_load_mid rfl 31 (.tmp 5) rfl (g + 1 + 1 + 1) 0 rfl [u, .int .i64 nx] _ (by intro j u hu; rw [Nat.zero_add]; exact (HA.out.2.1.cell j).trans (by simpa [mkS] using hu)) Try.underlying31 rfl Try.n31 ?_) | ((with_reducible show wpList _ _ _ (Oper.mk _ (Op.store _ _ _) _ _ _ _ :: _) _ _); refine wpList_put_arr rfl 31 (.tmp 4) (.tmp 42) rfl rfl (g + 1 + 1) 31 _ #[u, .int .i64 nx] rfl rfl HR2w.out Try.n31 rfl HONE.out ?_))
      try simp only [Exit.inBlock, Exit.then]
      refine bodyPost_ret (results_cell_row (p := 4) (ty := 31) rfl _ _ (g + 1 + 1) 31 #[u, .int .i64 nx] (0, 0) _ rfl (Row.setRow HR2w.out _) Try.underlying31 rfl Try.n31) rfl ?_
      obtain ⟨ax, cx, ev, hls⟩ := lf_put HOW.out HG2.out #[u, .int .i64 nx]
      exact ⟨⟨_, rfl, ax, L, cx, nx, by rw [ev], HLL.out, hls⟩, HBP.out _⟩
end Go.Proofs.Ytkonoojmhjinpaa
