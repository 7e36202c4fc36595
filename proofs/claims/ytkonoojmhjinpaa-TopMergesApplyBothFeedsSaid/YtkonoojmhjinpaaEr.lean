/- Contracts: equal, SameRow. -/
import Derived.Test.YtkonoojmhjinpaaEq
set_option linter.all false
namespace Go.Proofs.Ytkonoojmhjinpaa
open Go.RowKit Go.Fen
set_option linter.unusedVariables false
set_option maxHeartbeats 4000000

/-- the two rows that a comparison has boxed -/
theorem equal_any (r s : Rv) (w : World) (h1 : Rok w r) (h2 : Rok w s) : Calls Try.prog 49 #[.agg #[rvv r], .agg #[rvv s]] w fun e w' => e = .returned (.bool (decide (r.R = s.R))) ∧ Below w.heap.size w w' := by
  obtain ⟨a1, c1, R1⟩ := r
  obtain ⟨a2, c2, R2⟩ := s
  simp only [rvv]
  obtain ⟨n1, hn1⟩ : ∃ n, n = R1.length := ⟨_, rfl⟩
  obtain ⟨n2, hn2⟩ : ∃ n, n = R2.length := ⟨_, rfl⟩
  rw [← hn1, ← hn2]
  obtain ⟨g, eg⟩ : ∃ g, g = w.heap.size := ⟨_, rfl⟩
  obtain ⟨W0, hW0⟩ : ∃ W, W = w.alloc (.cells #[.slice a1 n1 c1] 43) := ⟨_, rfl⟩
  obtain ⟨W1, hW1⟩ : ∃ W, W = W0.alloc (.cells #[.slice a2 n2 c2] 43) := ⟨_, rfl⟩
  have z0 : W0.heap.size = g + 1 := by rw [hW0, eg]; simp
  have b1 : Below w.heap.size w W1 := by rw [hW1, hW0]; exact ((Below.refl _ _).alloc (Nat.le_refl _) _).alloc (by simp) _
  have R0 : Row W1 g 43 #[.slice a1 n1 c1] := by rw [hW1, hW0, eg]; exact (Row.new w 43 _).alloc _
  have R1' : Row W1 (g + 1) 43 #[.slice a2 n2 c2] := by rw [hW1]; exact Row.new' 43 _ z0.symm
  have HC := Lib.hid (fun q => cells_any a1 a2 R1 R2 n1 n2 c1 c2 (W1.drewN q) hn1 hn2 (by have := h1.2; simp at this; omega) (by have := h2.2; simp at this; omega) ((h1.1.bel b1).bel (below_drewN (Below.refl _ _) q)) ((h2.1.bel b1).bel (below_drewN (Below.refl _ _) q)))
  have k0 : W1.cell? ⟨g, 0, none⟩ = some (.slice a1 n1 c1) := R0.cell 0
  have k1 : W1.cell? ⟨g + 1, 0, none⟩ = some (.slice a2 n2 c2) := R1'.cell 0
  have HW0 := Lib.hid hW0
  have HW1 := Lib.hid hW1
  have EG := Lib.hid eg
  have Z0 := Lib.hid z0
  have HB := Lib.hid b1
  clear hW0 hW1 eg z0 b1 R0 R1' hn1 hn2 h1 h2
  go_enter Try.func49, Try.ntmps49
  go_wp2_with (first | ((with_reducible show wpList _ _ _ (Oper.mk _ (Op.box _ _) _ _ _ _ :: _) _ _); (first | (refine wpList_box_row rfl 43 (.tmp 0) rfl _ rfl g EG.out ?_; refine wpList_atE HW0.out ?_) | (refine wpList_box_row rfl 43 (.tmp 1) rfl _ rfl (g + 1) Z0.out.symm ?_; refine wpList_atE HW1.out ?_))))
  refine (HC.out 0).mono ?_
  rintro e w2 ⟨rfl, q, rfl⟩
  go_wp2_with fail
  first | go_ret | ((try simp only [Exit.inBlock, Exit.then]); go_ret)
  exact ⟨rfl, below_drewN HB.out q⟩
theorem sameRow_any (r s : Rv) (w : World) (h1 : Rok w r) (h2 : Rok w s) : Calls Try.prog 36 #[.agg #[rvv r], .agg #[rvv s]] w fun e w' => e = .returned (.bool (decide (r.R = s.R))) ∧ Below w.heap.size w w' := by
  obtain ⟨a1, c1, L1⟩ := r
  obtain ⟨a2, c2, L2⟩ := s
  simp only [rvv]
  obtain ⟨n1, hn1⟩ : ∃ n, n = L1.length := ⟨_, rfl⟩
  obtain ⟨n2, hn2⟩ : ∃ n, n = L2.length := ⟨_, rfl⟩
  rw [← hn1, ← hn2]
  obtain ⟨g, eg⟩ : ∃ g, g = w.heap.size := ⟨_, rfl⟩
  obtain ⟨W0, hW0⟩ : ∃ W, W = w.alloc (.cells #[.slice a1 n1 c1] 43) := ⟨_, rfl⟩
  obtain ⟨W1, hW1⟩ : ∃ W, W = W0.alloc (.cells #[.slice a2 n2 c2] 43) := ⟨_, rfl⟩
  have z0 : W0.heap.size = g + 1 := by rw [hW0, eg]; simp
  have b1 : Below w.heap.size w W1 := by rw [hW1, hW0]; exact ((Below.refl _ _).alloc (Nat.le_refl _) _).alloc (by simp) _
  have R0 : Row W1 g 43 #[.slice a1 n1 c1] := by rw [hW1, hW0, eg]; exact (Row.new w 43 _).alloc _
  have R1' : Row W1 (g + 1) 43 #[.slice a2 n2 c2] := by rw [hW1]; exact Row.new' 43 _ z0.symm
  have k0 : W1.cell? ⟨g, 0, none⟩ = some (.slice a1 n1 c1) := R0.cell 0
  have k1 : W1.cell? ⟨g + 1, 0, none⟩ = some (.slice a2 n2 c2) := R1'.cell 0
  have m1 : n1 ≤ 1000 := by have := h1.2; simp at this; omega
  have m2 : n2 ≤ 1000 := by have := h2.2; simp at this; omega
  have HM1 := Lib.hid (h1.1.bel b1)
  have HM2 := Lib.hid (h2.1.bel b1)
  have HW0 := Lib.hid hW0
  have HW1 := Lib.hid hW1
  have EG := Lib.hid eg
  have Z0 := Lib.hid z0
  have HB := Lib.hid b1
  have E1 := Lib.hid hn1
  have E2 := Lib.hid hn2
  clear hW0 hW1 eg z0 b1 R0 R1' h1 h2
  by_cases hl : n1 = n2
  · clear hn1 hn2
    subst hl
    have fin := Lib.hid (show (∀ i : Nat, i < n1 → L1[i]? = L2[i]?) → decide (L1 = L2) = true from fun h => decide_eq_true (List.ext_getElem? fun i => by
      by_cases hi : i < n1
      · exact h i hi
      · rw [List.getElem?_eq_none (by rw [← E1.out]; omega), List.getElem?_eq_none (by rw [← E2.out]; omega)]))
    have fne := Lib.hid (show ∀ i : Nat, L1[i]? ≠ L2[i]? → decide (L1 = L2) = false from fun i hne => decide_eq_false (fun e => hne (by rw [e])))
    obtain ⟨r, hr⟩ : ∃ r, r = decide (L1 = L2) := ⟨_, rfl⟩
    rw [← hr]
    have HR := Lib.hid hr
    clear hr
    go_enter Try.func36, Try.ntmps36
    go_wp2_with (first | ((with_reducible show wpList _ _ _ (Oper.mk _ (Op.box _ _) _ _ _ _ :: _) _ _); (first | (refine wpList_box_row rfl 43 (.tmp 0) rfl _ rfl g EG.out ?_; refine wpList_atE HW0.out ?_) | (refine wpList_box_row rfl 43 (.tmp 1) rfl _ rfl (g + 1) Z0.out.symm ?_; refine wpList_atE HW1.out ?_))))
    go_loopw [5] (fun iv wr => ∃ i q : Nat, i ≤ n1 ∧ iv = .int .i64 i ∧ (∀ j : Nat, j < i → L1[j]? = L2[j]?) ∧ wr = W1.drewN q) (fun iv _ => n1 - (intOf iv).toNat)
    case atStart => exact ⟨0, 0, by omega, rfl, fun j hj => by omega, rfl⟩
    case round =>
      obtain ⟨i, q, hi, rfl, hall, rfl⟩ := hrel
      by_cases hin : i < n1
      · have ii : (i : Int) < (n1 : Int) := by omega
        obtain ⟨g1, o1, rfl, _, hc1⟩ := HM1.out.form (by rw [← E1.out]; omega)
        obtain ⟨g2, o2, rfl, _, hc2⟩ := HM2.out.form (by rw [← E2.out]; omega)
        obtain ⟨x, hx⟩ : ∃ f, L1[i]? = some f := ⟨_, List.getElem?_eq_getElem (by rw [← E1.out]; omega)⟩
        obtain ⟨y, hy⟩ : ∃ f, L2[i]? = some f := ⟨_, List.getElem?_eq_getElem (by rw [← E2.out]; omega)⟩
        have x1 := hc1 i x hx
        have x2 := hc2 i y hy
        have HX := Lib.hid hx
        have HY := Lib.hid hy
        have HA := Lib.hid hall
        have HIN := Lib.hid hin
        have NE0 := fun w => run_neqCl x y w
        by_cases huv : x = y
        · have st := Lib.hid (show L1[i]? = L2[i]? by rw [hx, hy, huv])
          have bq : eqc x y = true := by rw [huv]; exact eqc_refl _
          rw [bq] at NE0
          clear huv bq
          obtain ⟨xi, xb, xn, xs⟩ := x
          obtain ⟨yi, yb, yn, ys⟩ := y
          have y1 : W1.cell? ⟨g1, o1 + i * 4, none⟩ = some (.int .i64 xi) := x1 0 _ rfl
          have y2 : W1.cell? ⟨g1, o1 + i * 4 + 1, none⟩ = some (.bool xb) := x1 1 _ rfl
          have y3 : W1.cell? ⟨g1, o1 + i * 4 + 2, none⟩ = some (.int .i64 xn) := x1 2 _ rfl
          have y4 : W1.cell? ⟨g1, o1 + i * 4 + 3, none⟩ = some (.string xs) := x1 3 _ rfl
          have y5 : W1.cell? ⟨g2, o2 + i * 4, none⟩ = some (.int .i64 yi) := x2 0 _ rfl
          have y6 : W1.cell? ⟨g2, o2 + i * 4 + 1, none⟩ = some (.bool yb) := x2 1 _ rfl
          have y7 : W1.cell? ⟨g2, o2 + i * 4 + 2, none⟩ = some (.int .i64 yn) := x2 2 _ rfl
          have y8 : W1.cell? ⟨g2, o2 + i * 4 + 3, none⟩ = some (.string ys) := x2 3 _ rfl
          have GU := fun x y (w : World) => run_eqGuard_agg (P := Try.prog) w .neq 58 x y #[.int .i64 xi, .bool xb, .int .i64 xn, .string xs] #[.int .i64 yi, .bool yb, .int .i64 yn, .string ys] guard58
          simp only [Bool.not_true] at NE0
          clear hc1 hc2 hall hin hx hy hi x1 x2
          go_wp2_with fail
          go_quiet (fail)
          go_wp2_with fail
          go_roundw
          case rel => exact ⟨i + 1, q + nq, HIN.out, by go_num, fun j hj => by
            by_cases e : j = i
            · rw [e]; exact st.out
            · exact HA.out j (by omega), by first | rfl | rw [World.drewN_drewN]⟩
          case measure => have := HIN.out; simp [intOf] <;> omega
        · have rf : Hid (false = r) := Lib.hid (by rw [HR.out, fne.out i (by rw [hx, hy]; intro e; exact huv (Option.some.inj e))])
          have bq := eqc_false huv
          rw [bq] at NE0
          clear huv bq
          obtain ⟨xi, xb, xn, xs⟩ := x
          obtain ⟨yi, yb, yn, ys⟩ := y
          have y1 : W1.cell? ⟨g1, o1 + i * 4, none⟩ = some (.int .i64 xi) := x1 0 _ rfl
          have y2 : W1.cell? ⟨g1, o1 + i * 4 + 1, none⟩ = some (.bool xb) := x1 1 _ rfl
          have y3 : W1.cell? ⟨g1, o1 + i * 4 + 2, none⟩ = some (.int .i64 xn) := x1 2 _ rfl
          have y4 : W1.cell? ⟨g1, o1 + i * 4 + 3, none⟩ = some (.string xs) := x1 3 _ rfl
          have y5 : W1.cell? ⟨g2, o2 + i * 4, none⟩ = some (.int .i64 yi) := x2 0 _ rfl
          have y6 : W1.cell? ⟨g2, o2 + i * 4 + 1, none⟩ = some (.bool yb) := x2 1 _ rfl
          have y7 : W1.cell? ⟨g2, o2 + i * 4 + 2, none⟩ = some (.int .i64 yn) := x2 2 _ rfl
          have y8 : W1.cell? ⟨g2, o2 + i * 4 + 3, none⟩ = some (.string ys) := x2 3 _ rfl
          have GU := fun x y (w : World) => run_eqGuard_agg (P := Try.prog) w .neq 58 x y #[.int .i64 xi, .bool xb, .int .i64 xn, .string xs] #[.int .i64 yi, .bool yb, .int .i64 yn, .string ys] guard58
          simp only [Bool.not_false] at NE0
          clear hc1 hc2 hall hin hx hy hi x1 x2
          go_wp2_with fail
          go_quiet (fail)
          go_wp2_with fail
          first | go_ret | ((try simp only [Exit.inBlock, Exit.then]); go_ret)
          exact ⟨by rw [← rf.out]; rfl, by first | exact below_drewN (below_drewN HB.out _) _ | exact below_drewN HB.out _⟩
      · obtain rfl : i = n1 := by omega
        have ii : ¬ (i : Int) < (i : Int) := by omega
        have rt : Hid (true = r) := Lib.hid (by rw [HR.out, fin.out hall])
        clear hall
        go_wp2_with fail
        first | go_ret | ((try simp only [Exit.inBlock, Exit.then]); go_ret)
        exact ⟨by rw [← rt.out]; rfl, below_drewN HB.out _⟩
  · have rf : decide (L1 = L2) = false := decide_eq_false (fun e => hl (by rw [hn1, hn2, e]))
    have b : ((n1 : Int) == (n2 : Int)) = false := beq_eq_false_iff_ne.2 (by omega)
    rw [rf]
    clear rf hn1 hn2
    go_enter Try.func36, Try.ntmps36
    go_wp2_with (first | ((with_reducible show wpList _ _ _ (Oper.mk _ (Op.box _ _) _ _ _ _ :: _) _ _); (first | (refine wpList_box_row rfl 43 (.tmp 0) rfl _ rfl g EG.out ?_; refine wpList_atE HW0.out ?_) | (refine wpList_box_row rfl 43 (.tmp 1) rfl _ rfl (g + 1) Z0.out.symm ?_; refine wpList_atE HW1.out ?_))))
    first | go_ret | ((try simp only [Exit.inBlock, Exit.then]); go_ret)
    exact ⟨rfl, HB.out⟩
end Go.Proofs.Ytkonoojmhjinpaa
