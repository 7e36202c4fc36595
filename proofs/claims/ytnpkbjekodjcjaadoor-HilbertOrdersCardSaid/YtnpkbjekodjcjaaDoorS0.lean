/- The contract of the reference's Rows, for rows that came in. -/
import Derived.Test.YtnpkbjekodjcjaaDoorS
set_option linter.all false
namespace Go.Proofs.YtnpkbjekodjcjaaDoor
open Go.RowKit Go.Fen Hil
set_option linter.unusedVariables false
set_option maxHeartbeats 4000000

/-- a slice of numbers lies in memory; of an empty one nothing is asked -/
def IntsM0 (w : World) (a : Option Addr) (L : List Int) : Prop := (True ∧ L.length = 0) ∨ ∃ g o, a = some ⟨g, o, none⟩ ∧ g < w.heap.size ∧ ∀ i, i < L.length → w.cell? ⟨g, o + i, none⟩ = some (.int .i64 (L.getD i 0))
theorem IntsM0.below {w w' : World} {B : Nat} {a : Option Addr} {L : List Int} (h : IntsM0 w a L) (hb : Below B w w') (hB : w.heap.size ≤ B) : IntsM0 w' a L := by
  rcases h with h | ⟨g, o, ea, hg, hc⟩
  · exact .inl h
  · exact .inr ⟨g, o, ea, Nat.lt_of_lt_of_le hg hb.size, fun i hi => (hb.cell (p := ⟨g, o + i, none⟩) (Nat.lt_of_lt_of_le hg hB)).trans (hc i hi)⟩
/-- a list of lists of numbers that came in -/
def RawM0 (w : World) (a : Option Addr) (R : List (List Int)) : Prop :=
  (True ∧ R.length = 0) ∨ ∃ g o, a = some ⟨g, o, none⟩ ∧ g < w.heap.size ∧ ∀ i, i < R.length → ∃ al cl, w.cell? ⟨g, o + i, none⟩ = some (.slice al (R.getD i []).length cl) ∧ IntsM0 w al (R.getD i [])
theorem RawM0.below {w w' : World} {B : Nat} {a : Option Addr} {R : List (List Int)} (h : RawM0 w a R) (hb : Below B w w') (hB : w.heap.size ≤ B) : RawM0 w' a R := by
  rcases h with h | ⟨g, o, ea, hg, hc⟩
  · exact .inl h
  · refine .inr ⟨g, o, ea, Nat.lt_of_lt_of_le hg hb.size, fun i hi => ?_⟩
    obtain ⟨al, cl, h1, h2⟩ := hc i hi
    exact ⟨al, cl, (hb.cell (p := ⟨g, o + i, none⟩) (Nat.lt_of_lt_of_le hg hB)).trans h1, h2.below hb hB⟩

set_option maxRecDepth 20000 in
theorem rows_any0 (a : Option Addr) (R : List (List Int)) (nr c nn : Nat) (w : World) (er : nr = R.length) (hn : nn ≤ 1000000) (hM : RawM0 w a R) :
    Calls Tryd.prog 17 #[.slice a nr c, .int .i64 nn] w fun e w' => ∃ a' c', e = .returned (.slice a' (min nr nn) c') ∧ RowsM w' a' (rowsOf R (min nr nn)) ∧ Below w.heap.size w w' := by
  obtain ⟨B, hB⟩ : ∃ B, B = w.heap.size := ⟨_, rfl⟩
  obtain ⟨W1, hW1⟩ : ∃ W, W = w.alloc (.cells #[] 76) := ⟨_, rfl⟩
  have B0 : BufR B (.slice (some ⟨B, 0, none⟩) 0 0) [] [] w W1 := by
    rw [hW1]
    exact ⟨Buf.lit (Below.refl _ _) (by rw [hB]; exact Nat.le_refl _) #[] 0 rfl (by decide) B hB, rfl, fun i hi => by simp at hi⟩
  obtain ⟨m, hm⟩ : ∃ m, m = min nr nn := ⟨_, rfl⟩
  rw [← hm]
  have HB0 := Lib.hid B0
  have HW1 := Lib.hid hW1
  have HBB := Lib.hid hB
  have HM := Lib.hid hM
  have ER := Lib.hid er
  have EM := Lib.hid hm
  have ez : w.heap.size = B := hB.symm
  clear B0 hW1 hB hM er hm
  go_enter Tryd.func17, Tryd.ntmps17
  go_wp2_with (first | ((with_reducible (refine wpList_atE HW1.out ?_))))
  rw [← HW1.out]
  go_loopw [5, 6, 7, 8] (fun v iv _ _ wr => ∃ (i : Nat) (vs : List Value), i ≤ m ∧ iv = .int .i64 i ∧ BufR B v vs (rowsOf R i) w wr) (fun _ iv _ _ _ => m - (intOf iv).toNat)
  case atStart => exact ⟨0, [], by omega, rfl, HB0.out⟩
  case round =>
    obtain ⟨i, vs, hi, rfl, hBR⟩ := hrel
    obtain ⟨wo, hwo⟩ : ∃ x, x = wr := ⟨_, rfl⟩
    subst hwo
    have hmm := EM.out
    by_cases him : i < m
    · have i1 : (i : Int) < (nr : Int) := by omega
      have i2 : (i : Int) < (nn : Int) := by omega
      obtain ⟨ga, oa, ea, hga, hc⟩ : ∃ g o, a = some ⟨g, o, none⟩ ∧ g < w.heap.size ∧ ∀ i, i < R.length → ∃ al cl, w.cell? ⟨g, o + i, none⟩ = some (.slice al (R.getD i []).length cl) ∧ IntsM0 w al (R.getD i []) := by
        rcases HM.out with ⟨_, h⟩ | h
        · have := ER.out; omega
        · exact h
      subst ea
      obtain ⟨al, cl, h1, h2⟩ := hc i (by rw [← ER.out]; omega)
      obtain ⟨l, hl⟩ : ∃ l, l = R.getD i [] := ⟨_, rfl⟩
      rw [← hl] at h1 h2
      obtain ⟨ll, hll⟩ : ∃ ll, ll = l.length := ⟨_, rfl⟩
      rw [← hll] at h1
      have hBw : Below w.heap.size w wo := by have := hBR.buf.2.1; rw [← ez] at this; exact this
      have HBw := Lib.hid hBw
      have C1 := Lib.hid h1
      have HI := Lib.hid h2
      obtain ⟨gr, hgr⟩ : ∃ gr, gr = wo.heap.size := ⟨_, rfl⟩
      obtain ⟨V0, hV0⟩ : ∃ V, V = wo.alloc (.cells #[.slice none 0 0] 76) := ⟨_, rfl⟩
      have zV : V0.heap.size = gr + 1 := by rw [hV0, World.size_alloc, hgr]
      have bV : Below wo.heap.size wo V0 := by rw [hV0]; exact (Below.refl _ _).alloc (Nat.le_refl _) _
      have A0 : AccF V0 gr (.slice none 0 0) (rowF l 0) V0 := ⟨World.ownsRow_nil _ _ _ _, by rw [hV0]; exact Row.new' 76 _ hgr, grown_refl _ _⟩
      obtain ⟨m2, hm2⟩ : ∃ m2, m2 = min ll 2 := ⟨_, rfl⟩
      have HA0 := Lib.hid A0
      have HV0 := Lib.hid hV0
      have HGR := Lib.hid hgr
      have ZV := Lib.hid zV
      have BV := Lib.hid bV
      have HL := Lib.hid hl
      have HLL := Lib.hid hll
      have EM2 := Lib.hid hm2
      have HBR := Lib.hid hBR
      have HIM := Lib.hid him
      have lgr : Hid (B ≤ gr) := Lib.hid (by rw [hgr]; exact hBR.buf.2.2)
      clear A0 hV0 hgr zV bV hl hll hm2 hBR him h1 h2 hc hBw hi
      go_wp2_with (first | ((with_reducible show wpList _ _ _ (Oper.mk _ (Op.alloc _) _ _ _ _ :: _) _ _); (refine wpList_new_row rfl rfl 76 7 (.tmp 21) rfl rfl rfl rfl gr HGR.out #[.slice none 0 0] rfl rfl _ Tryd.z76 Tryd.n76 rfl (one_slice _ _ _) ?_; refine wpList_atE HV0.out ?_)))
      go_loopw [8] (fun kv wr => ∃ (k : Nat) (vr : Value), k ≤ m2 ∧ kv = .int .i64 k ∧ AccF V0 gr vr (rowF l k) wr) (fun kv _ => m2 - (intOf kv).toNat)
      case atStart => exact ⟨0, _, by omega, rfl, HA0.out⟩
      case round =>
        obtain ⟨k, vr, hk, rfl, hA⟩ := hrel
        have hmm2 := EM2.out
        have hBq : Below wo.heap.size wo wr := BV.out.trans (by rw [← HGR.out]; exact hA.bel (Nat.le_refl _) (by have := ZV.out; omega))
        have c1 := ((bel_tr HBw.out hBq).cell (p := ⟨ga, oa + i, none⟩) hga).trans C1.out
        have v0 := hA.2.1.cell 0
        simp only [List.getElem?_toArray, List.getElem?_cons_zero] at v0
        by_cases hkm : k < m2
        · have k1 : (k : Int) < (ll : Int) := by omega
          have k2 : (k : Int) < 2 := by omega
          have k3 : k < 2 := by omega
          obtain ⟨gl, ol, eal, hgl, hcl⟩ : ∃ g o, al = some ⟨g, o, none⟩ ∧ g < w.heap.size ∧ ∀ i, i < l.length → w.cell? ⟨g, o + i, none⟩ = some (.int .i64 (l.getD i 0)) := by
            rcases HI.out with ⟨_, h⟩ | h
            · have := HLL.out; omega
            · exact h
          subst eal
          have cx := ((bel_tr HBw.out hBq).cell (p := ⟨gl, ol + k, none⟩) hgl).trans (hcl k (by rw [← HLL.out]; omega))
          have szw : w.heap.size ≤ wr.heap.size := Nat.le_trans HBw.out.size hBq.size
          have lgl : gl < wr.heap.size := by omega
          have ngl : gl ≠ gr := by have := HGR.out; have := HBw.out.size; omega
          have nga : ga ≠ gr := by have := HGR.out; have := HBw.out.size; omega
          obtain ⟨x, hx⟩ : ∃ x, x = l.getD k 0 := ⟨_, rfl⟩
          rw [← hx] at cx
          have FS : rowF l (k + 1) = if x.tmod 7 = 0 then rowF l k else rowF l k ++ [((k : Int) + 1, x)] := by rw [rowF, ← hx]
          have HF := Lib.hid FS
          have HA := Lib.hid hA
          have HKM := Lib.hid hkm
          have LF := length_rowF l k
          clear FS hA hkm hx hcl hk
          by_cases h7 : x.tmod 7 = 0
          · have b7 : (x.tmod 7 == 0) = true := by rw [h7]; rfl
            have HF' := Lib.hid (show rowF l (k + 1) = rowF l k by rw [HF.out, if_pos h7])
            go_wp2_with fail
            go_roundw
            case rel => exact ⟨k + 1, vr, HKM.out, by go_num, by rw [HF'.out]; exact HA.out⟩
            case measure => have := HKM.out; simp [intOf] <;> omega
          · have b7 : (x.tmod 7 == 0) = false := beq_eq_false_iff_ne.2 h7
            have HF' := Lib.hid (show rowF l (k + 1) = rowF l k ++ [((k : Int) + 1, x)] by rw [HF.out, if_neg h7])
            go_wp2_with fail
            have hS : wr.drew.cell? ⟨ga, oa + i, none⟩ = some (.slice (some ⟨gl, ol, none⟩) ll cl) ∧ wr.drew.cell? ⟨gl, ol + k, none⟩ = some (.int .i64 x) := ⟨c1, cx⟩
            have lga : ga < wr.heap.size := block_lt_of_cell (a := ⟨ga, oa + i, none⟩) c1
            have kk : IntKind.i64.wrap ((k : Int) + 1) = (k : Int) + 1 := wrap_i64 _ (by omega) (by omega)
            refine wp_region_held (S := fun W' => W'.cell? ⟨ga, oa + i, none⟩ = some (.slice (some ⟨gl, ol, none⟩) ll cl) ∧ W'.cell? ⟨gl, ol + k, none⟩ = some (.int .i64 x)) (by kernel_rfl) ?_
            refine take_run 0 44 (.pointer (some ⟨gr, 0, none⟩)) rfl rfl rfl (fun W hW => by go_simp) (by kernel_rfl) (by kernel_rfl) (by kernel_rfl) (fun _ _ _ h => h) hS ?_
            simp only [Act.put, List.setIfInBounds_toArray, List.set_cons_zero, List.set_cons_succ]
            refine take_move 2 46 (.tmp 8) _ rfl rfl rfl rfl rfl (by kernel_rfl) (by kernel_rfl) (by kernel_rfl) (fun _ _ _ h => h) hS ?_
            simp only [Act.put, List.setIfInBounds_toArray, List.set_cons_zero, List.set_cons_succ]
            refine take_run 3 47 (.int .i64 ((k : Int) + 1)) rfl rfl rfl (fun W hW => by go_simp) (by kernel_rfl) (by kernel_rfl) (by kernel_rfl) (fun _ _ _ h => h) hS ?_
            simp only [Act.put, List.setIfInBounds_toArray, List.set_cons_zero, List.set_cons_succ]
            refine take_move 4 48 (.tmp 0) _ rfl rfl rfl rfl rfl (by kernel_rfl) (by kernel_rfl) (by kernel_rfl) (fun _ _ _ h => h) hS ?_
            simp only [Act.put, List.setIfInBounds_toArray, List.set_cons_zero, List.set_cons_succ]
            refine take_move 5 49 (.tmp 6) _ rfl rfl rfl rfl rfl (by kernel_rfl) (by kernel_rfl) (by kernel_rfl) (fun _ _ _ h => h) hS ?_
            simp only [Act.put, List.setIfInBounds_toArray, List.set_cons_zero, List.set_cons_succ]
            refine take_run 6 50 (.pointer (some ⟨ga, oa + i, none⟩)) rfl rfl rfl (fun W hW => by go_simp) (by kernel_rfl) (by kernel_rfl) (by kernel_rfl) (fun _ _ _ h => h) hS ?_
            simp only [Act.put, List.setIfInBounds_toArray, List.set_cons_zero, List.set_cons_succ]
            refine take_run 7 51 (.slice (some ⟨gl, ol, none⟩) ll cl) rfl rfl rfl (fun W hW => by obtain ⟨h0, h1⟩ := hW; go_simp) (by kernel_rfl) (by kernel_rfl) (by kernel_rfl) (fun _ _ _ h => h) hS ?_
            simp only [Act.put, List.setIfInBounds_toArray, List.set_cons_zero, List.set_cons_succ]
            refine take_move 8 52 (.tmp 8) _ rfl rfl rfl rfl rfl (by kernel_rfl) (by kernel_rfl) (by kernel_rfl) (fun _ _ _ h => h) hS ?_
            simp only [Act.put, List.setIfInBounds_toArray, List.set_cons_zero, List.set_cons_succ]
            refine take_run 9 53 (.pointer (some ⟨gl, ol + k, none⟩)) rfl rfl rfl (fun W hW => by go_simp) (by kernel_rfl) (by kernel_rfl) (by kernel_rfl) (fun _ _ _ h => h) hS ?_
            simp only [Act.put, List.setIfInBounds_toArray, List.set_cons_zero, List.set_cons_succ]
            refine take_run 10 54 (.int .i64 x) rfl rfl rfl (fun W hW => by obtain ⟨h0, h1⟩ := hW; go_simp) (by kernel_rfl) (by kernel_rfl) (by kernel_rfl) (fun _ _ _ h => h) hS ?_
            simp only [Act.put, List.setIfInBounds_toArray, List.set_cons_zero, List.set_cons_succ]
            refine take_run 11 55 (.agg #[.bool false, .int .i64 x, .string ⟨#[]⟩]) rfl rfl rfl (fun W hW => by go_simp) (by kernel_rfl) (by kernel_rfl) (by kernel_rfl) (fun _ _ _ h => h) hS ?_
            simp only [Act.put, List.setIfInBounds_toArray, List.set_cons_zero, List.set_cons_succ]
            refine take_run 12 56 (.agg #[.int .i64 ((k : Int) + 1), .bool false, .int .i64 x, .string ⟨#[]⟩]) rfl rfl rfl (fun W hW => by go_simp) (by kernel_rfl) (by kernel_rfl) (by kernel_rfl) (fun _ _ _ h => h) hS ?_
            simp only [Act.put, List.setIfInBounds_toArray, List.set_cons_zero, List.set_cons_succ]
            obtain ⟨gA, hgA⟩ : ∃ gA, gA = wr.drew.heap.size := ⟨_, rfl⟩
            obtain ⟨WA, hWA⟩ : ∃ W, W = wr.drew.alloc (.cells #[.int .i64 ((k : Int) + 1), .bool false, .int .i64 x, .string ⟨#[]⟩] 80) := ⟨_, rfl⟩
            have BA : Below wr.drew.heap.size wr.drew WA := by rw [hWA]; exact (Below.refl _ _).alloc (Nat.le_refl _) _
            have HGA := Lib.hid hgA
            have HWA := Lib.hid hWA
            clear hgA hWA
            have hSA : WA.cell? ⟨ga, oa + i, none⟩ = some (.slice (some ⟨gl, ol, none⟩) ll cl) ∧ WA.cell? ⟨gl, ol + k, none⟩ = some (.int .i64 x) := ⟨(BA.cell (p := ⟨ga, oa + i, none⟩) lga).trans hS.1, (BA.cell (p := ⟨gl, ol + k, none⟩) lgl).trans hS.2⟩
            have v1 : wr.drew.cell? ⟨gr, 0, none⟩ = some vr := v0
            have v2 : WA.cell? ⟨gr, 0, none⟩ = some vr := (BA.cell (p := ⟨gr, 0, none⟩) (HA.out.2.1.lt)).trans v1
            refine wpAnyH_two (i := 1) (j := 13) (by kernel_rfl) rfl rfl rfl rfl ?_ ?_
            · clear v2
              refine wp_value (d := 45) rfl (v := vr) (by go_simp) ⟨hS, ?_⟩
              simp only [Act.put, List.setIfInBounds_toArray, List.set_cons_zero, List.set_cons_succ]
              refine wpAnyH_one (i := 13) (by kernel_rfl) rfl rfl ?_
              refine wp_value (d := 57) rfl (v := .slice (some ⟨gA, 0, none⟩) 1 1) (w' := WA) (by rw [HWA.out, HGA.out]; go_simp) ⟨hSA, ?_⟩
              simp only [Act.put, List.setIfInBounds_toArray, List.set_cons_zero, List.set_cons_succ]
              refine wpAnyH_one (i := 14) (by kernel_rfl) rfl rfl (wp_pushC (.tmp 45) (.tmp 57) rfl V0.heap.size vr (rowF l k) rfl wr.drew WA ((k : Int) + 1, x) HWA.out HA.out.1 HA.out.2.2.size gA HGA.out rfl (by omega) (fun v' w' hv' hg => ?_))
              obtain ⟨hrow, hAF⟩ := AccF.push HA.out (by have := ZV.out; omega) (bel_drew (Below.refl _ _) |>.trans BA) hv' hg
              have hown : ∀ q, vr.ownBlock = some q → V0.heap.size ≤ q := fun q hq => (HA.out.1.lt q hq).1
              obtain ⟨ge, ce, ev, _⟩ := World.ownsRow.form hv' (by simp)
              subst ev
              have hSw : w'.cell? ⟨ga, oa + i, none⟩ = some (.slice (some ⟨gl, ol, none⟩) ll cl) ∧ w'.cell? ⟨gl, ol + k, none⟩ = some (.int .i64 x) := ⟨(World.grownBy.cell_far hg ⟨ga, oa + i, none⟩ (Nat.lt_of_lt_of_le lga BA.size) (fun e => by have := hown ga e.symm; have := HA.out.2.2.size; have h3 := HBw.out.size; have := ZV.out; have := HGR.out; omega)).trans hSA.1, (World.grownBy.cell_far hg ⟨gl, ol + k, none⟩ (Nat.lt_of_lt_of_le lgl BA.size) (fun e => by have := hown gl e.symm; have h3 := HBw.out.size; have := ZV.out; have := HGR.out; omega)).trans hSA.2⟩
              refine ⟨hSw, ?_⟩
              simp only [Act.put, List.setIfInBounds_toArray, List.set_cons_zero, List.set_cons_succ]
              refine take_run 15 59 (.pointer (some ⟨gr, 0, none⟩)) rfl rfl rfl (fun W hW => by go_simp) (by kernel_rfl) (by kernel_rfl) (by kernel_rfl) (fun _ _ _ h => h) hSw ?_
              simp only [Act.put, List.setIfInBounds_toArray, List.set_cons_zero, List.set_cons_succ]
              have z3 := hrow.cell 0
              have z4 := hrow.frozen 0
              simp only [List.getElem?_toArray, List.getElem?_cons_zero] at z3
              refine wpAnyH_one (i := 16) (by kernel_rfl) rfl rfl ?_
              unfold Oper.wp
              go_simp
              refine ⟨by kernel_rfl, ?_⟩
              have HAF := Lib.hid hAF
              clear hAF hrow hv' hg hSw hSA hS z3 z4 BA hown v1 
              go_wp2_with fail
              go_roundw
              case rel => exact ⟨k + 1, _, HKM.out, by go_num, by rw [HF'.out]; have h := HAF.out; rw [show (rowF l k ++ [((k : Int) + 1, x)]).length = (rowF l k).length + 1 by simp] at h; exact h⟩
              case measure => have := HKM.out; simp [intOf] <;> omega
            · clear v1
              refine wp_value (d := 57) rfl (v := .slice (some ⟨gA, 0, none⟩) 1 1) (w' := WA) (by rw [HWA.out, HGA.out]; go_simp) ⟨hSA, ?_⟩
              simp only [Act.put, List.setIfInBounds_toArray, List.set_cons_zero, List.set_cons_succ]
              refine wpAnyH_one (i := 1) (by kernel_rfl) rfl rfl ?_
              refine wp_value (d := 45) rfl (v := vr) (by go_simp) ⟨hSA, ?_⟩
              simp only [Act.put, List.setIfInBounds_toArray, List.set_cons_zero, List.set_cons_succ]
              refine wpAnyH_one (i := 14) (by kernel_rfl) rfl rfl (wp_pushC (.tmp 45) (.tmp 57) rfl V0.heap.size vr (rowF l k) rfl wr.drew WA ((k : Int) + 1, x) HWA.out HA.out.1 HA.out.2.2.size gA HGA.out rfl (by omega) (fun v' w' hv' hg => ?_))
              obtain ⟨hrow, hAF⟩ := AccF.push HA.out (by have := ZV.out; omega) (bel_drew (Below.refl _ _) |>.trans BA) hv' hg
              have hown : ∀ q, vr.ownBlock = some q → V0.heap.size ≤ q := fun q hq => (HA.out.1.lt q hq).1
              obtain ⟨ge, ce, ev, _⟩ := World.ownsRow.form hv' (by simp)
              subst ev
              have hSw : w'.cell? ⟨ga, oa + i, none⟩ = some (.slice (some ⟨gl, ol, none⟩) ll cl) ∧ w'.cell? ⟨gl, ol + k, none⟩ = some (.int .i64 x) := ⟨(World.grownBy.cell_far hg ⟨ga, oa + i, none⟩ (Nat.lt_of_lt_of_le lga BA.size) (fun e => by have := hown ga e.symm; have := HA.out.2.2.size; have h3 := HBw.out.size; have := ZV.out; have := HGR.out; omega)).trans hSA.1, (World.grownBy.cell_far hg ⟨gl, ol + k, none⟩ (Nat.lt_of_lt_of_le lgl BA.size) (fun e => by have := hown gl e.symm; have h3 := HBw.out.size; have := ZV.out; have := HGR.out; omega)).trans hSA.2⟩
              refine ⟨hSw, ?_⟩
              simp only [Act.put, List.setIfInBounds_toArray, List.set_cons_zero, List.set_cons_succ]
              refine take_run 15 59 (.pointer (some ⟨gr, 0, none⟩)) rfl rfl rfl (fun W hW => by go_simp) (by kernel_rfl) (by kernel_rfl) (by kernel_rfl) (fun _ _ _ h => h) hSw ?_
              simp only [Act.put, List.setIfInBounds_toArray, List.set_cons_zero, List.set_cons_succ]
              have z3 := hrow.cell 0
              have z4 := hrow.frozen 0
              simp only [List.getElem?_toArray, List.getElem?_cons_zero] at z3
              refine wpAnyH_one (i := 16) (by kernel_rfl) rfl rfl ?_
              unfold Oper.wp
              go_simp
              refine ⟨by kernel_rfl, ?_⟩
              have HAF := Lib.hid hAF
              clear hAF hrow hv' hg hSw hSA hS z3 z4 BA hown v2 
              go_wp2_with fail
              go_roundw
              case rel => exact ⟨k + 1, _, HKM.out, by go_num, by rw [HF'.out]; have h := HAF.out; rw [show (rowF l k ++ [((k : Int) + 1, x)]).length = (rowF l k).length + 1 by simp] at h; exact h⟩
              case measure => have := HKM.out; simp [intOf] <;> omega
        · obtain rfl : k = m2 := by omega
          have LF := length_rowF l k
          have k2 : k ≤ 2 := by omega
          have hro : rowOf (R.getD i []) = rowF l k := by rw [rowOf, ← HL.out, ← HLL.out, ← hmm2]
          have hx : RowX wr (u5.ownBlock) vr (rowF l k) := rowx_of_own hA.1 (by omega) (fun q hq => by have := (HBR.out.buf.1.lt q hq).2; have := HGR.out; have := ZV.out; omega)
          have hB2 : BufR B u5 vs (rowsOf R i) w wr := HBR.out.call hBq
          have HX := Lib.hid hx
          have HB2 := Lib.hid hB2
          have HRO := Lib.hid hro
          have im : i ≤ 1000000 := by omega
          clear hx hB2 hro hA
          by_cases hkl : k < ll
          · have k1 : (k : Int) < (ll : Int) := by omega
            have k3 : ¬ (k : Int) < 2 := by omega
            have d2 : decide ((k : Int) < 2) = false := decide_eq_false k3
            have d3 : decide (k < 2) = false := decide_eq_false (by omega)
            go_wp2_with (first | ((with_reducible show wpList _ _ _ (Oper.mk _ (Op.call _) _ _ _ _ :: _) _ _); (refine wpList_pushR rfl (.tmp 60) (.tmp 62) rfl B u5 vs (rowsOf R i) rfl w wr _ vr (rowF l k) HX.out rfl HB2.out wr.heap.size rfl rfl (by rw [length_rowsOf]; omega) (fun v' w' hv' => ?_); have HV' := Lib.hid hv'; clear hv')))
            go_roundw
            case rel => exact ⟨i + 1, vs ++ [vr], HIM.out, by go_num, by rw [rowsOf_succ, HRO.out]; exact HV'.out⟩
            case measure => have := HIM.out; simp [intOf] <;> omega
          · have k1 : ¬ (k : Int) < (ll : Int) := by omega
            have d2 : decide ((k : Int) < (ll : Int)) = false := decide_eq_false k1
            have d3 : decide (k < ll) = false := decide_eq_false hkl
            go_wp2_with (first | ((with_reducible show wpList _ _ _ (Oper.mk _ (Op.call _) _ _ _ _ :: _) _ _); (refine wpList_pushR rfl (.tmp 60) (.tmp 62) rfl B u5 vs (rowsOf R i) rfl w wr _ vr (rowF l k) HX.out rfl HB2.out wr.heap.size rfl rfl (by rw [length_rowsOf]; omega) (fun v' w' hv' => ?_); have HV' := Lib.hid hv'; clear hv')))
            go_roundw
            case rel => exact ⟨i + 1, vs ++ [vr], HIM.out, by go_num, by rw [rowsOf_succ, HRO.out]; exact HV'.out⟩
            case measure => have := HIM.out; simp [intOf] <;> omega
    · obtain rfl : i = m := by omega
      obtain ⟨ar, cr, ev, hRM⟩ := hBR.rows
      rw [length_rowsOf] at ev
      subst ev
      have HBb := Lib.hid hBR.buf.2.1
      have hRM := Lib.hid hRM
      clear hBR
      by_cases hin : i < nr
      · have i1 : (i : Int) < (nr : Int) := by omega
        have i2 : ¬ (i : Int) < (nn : Int) := by omega
        clear hmm
        go_wp2_with fail
        go_ret
        have hbf : Below w.heap.size w wo := by have h := HBb.out; rw [← ez] at h; exact h
        first | exact ⟨ar, cr, rfl, hRM.out, hbf⟩ | exact ⟨ar, ⟨cr, rfl⟩, hRM.out, hbf⟩ | exact ⟨ar, ⟨cr, rfl⟩, hRM.out, by rw [← ez]; exact hbf⟩ | exact ⟨ar, cr, rfl, hRM.out, by rw [← ez]; exact hbf⟩
      · have i1 : ¬ (i : Int) < (nr : Int) := by omega
        have d1 : decide ((i : Int) < (nr : Int)) = false := decide_eq_false i1
        have d2 : decide (i < nr) = false := decide_eq_false hin
        clear hmm
        go_wp2_with fail
        go_ret
        have hbf : Below w.heap.size w wo := by have h := HBb.out; rw [← ez] at h; exact h
        first | exact ⟨ar, cr, rfl, hRM.out, hbf⟩ | exact ⟨ar, ⟨cr, rfl⟩, hRM.out, hbf⟩ | exact ⟨ar, ⟨cr, rfl⟩, hRM.out, by rw [← ez]; exact hbf⟩ | exact ⟨ar, cr, rfl, hRM.out, by rw [← ez]; exact hbf⟩
end Go.Proofs.YtnpkbjekodjcjaaDoor
