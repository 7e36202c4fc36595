/- The contracts of the reference's Get and field. The contract of the reference's coordinates. -/
import Derived.Test.YtnpkbjekodjcjaaDoorR
import Derived.Test.YtnpkbjekodjcjaaDoorSv
set_option linter.all false
namespace Go.Proofs.YtnpkbjekodjcjaaDoor
open Go.RowKit Go.Fen Hil
set_option linter.unusedVariables false
set_option maxHeartbeats 4000000

theorem Tryd.z78 : (Tryd.prog.info? 78).bind (·.zero) = some (.agg #[.bool false, .int .i64 0, .string ⟨#[]⟩]) := by kernel_rfl
theorem Tryd.n78 : (Tryd.prog.info? 78).map (·.size) = some 3 := by kernel_rfl
theorem one_val (b : Bool) (x : Int) : (#[Value.bool b, .int .i64 x, .string ⟨#[]⟩]).all (·.oneCell') = true := by simp [Value.oneCell']
/-- the value of a field, or null -/
def valR (fs : List (Int × Int)) (id : Int) : Value := .agg #[.bool (!(numR fs id).2), .int .i64 (numR fs id).1, .string ⟨#[]⟩]

theorem get_any (a : Option Addr) (n c : Nat) (fs : List (Int × Int)) (id : Int) (w : World) (hR : RowM w (.slice a n c) fs) (en : n = fs.length) :
    Calls Tryd.prog 53 #[.agg #[.slice a n c], .int .i64 id] w fun e w' => e = .returned (valR fs id) ∧ Below w.heap.size w w' := by
  obtain ⟨g, eg⟩ : ∃ g, g = w.heap.size := ⟨_, rfl⟩
  obtain ⟨W0, hW0⟩ : ∃ W, W = w.alloc (.cells #[.slice a n c] 76) := ⟨_, rfl⟩
  obtain ⟨W1, hW1⟩ : ∃ W, W = W0.alloc (.cells #[.bool false, .int .i64 0, .string ⟨#[]⟩] 78) := ⟨_, rfl⟩
  have z0 : W0.heap.size = g + 1 := by rw [hW0, eg]; simp
  have hb : Below w.heap.size w W1 := by rw [hW1, hW0]; exact ((Below.refl _ _).alloc (Nat.le_refl _) _).alloc (by simp) _
  have R0 : Row W1 g 76 #[.slice a n c] := by rw [hW1, hW0, eg]; exact (Row.new w 76 _).alloc _
  have R1 : Row W1 (g + 1) 78 #[.bool false, .int .i64 0, .string ⟨#[]⟩] := by rw [hW1]; exact Row.new' 78 _ z0.symm
  obtain ⟨a', c', e', hl, hM⟩ := hR
  injection e' with ea en' ec
  subst ea ec
  have hn : n ≤ 1000000 := by omega
  have k0 := R0.cell 0
  simp only [List.getElem?_toArray, List.getElem?_cons_zero] at k0
  have ez : w.heap.size = g := eg.symm
  have HW0 := Lib.hid hW0
  have HW1 := Lib.hid hW1
  have EG := Lib.hid eg
  have Z0 := Lib.hid z0
  have HB := Lib.hid hb
  have HM := Lib.hid hM
  have EN := Lib.hid en
  have HR1 := Lib.hid R1
  have PL := Lib.hid (posR_le fs id)
  have HBP := Lib.hid (fun cs => below_putRow hb (show w.heap.size ≤ g + 1 by omega) cs)
  clear hW0 hW1 eg z0 hb hM en en' R0 R1 hl
  go_enter Tryd.func53, Tryd.ntmps53
  go_wp2_with (first | ((with_reducible show wpList _ _ _ (Oper.mk _ (Op.box _ _) _ _ _ _ :: _) _ _); (refine wpList_box_row rfl 76 (.tmp 0) rfl _ rfl g EG.out ?_; refine wpList_atE HW0.out ?_)) | ((with_reducible show wpList _ _ _ (Oper.mk _ (Op.alloc _) _ _ _ _ :: _) _ _); (refine wpList_alloc_row rfl 78 rfl #[.bool false, .int .i64 0, .string ⟨#[]⟩] Tryd.z78 (g + 1) Z0.out.symm ?_; refine wpList_atE HW1.out ?_)))
  go_loopw [5] (fun iv wr => ∃ k : Nat, k ≤ posR fs id ∧ iv = .int .i64 k ∧ wr = W1) (fun iv _ => n - (intOf iv).toNat)
  case atStart => exact ⟨0, by omega, rfl, rfl⟩
  case round =>
    obtain ⟨k, hk, rfl, rfl⟩ := hrel
    by_cases hkn : k < n
    · have ki : (k : Int) < (n : Int) := by omega
      obtain ⟨gc, o, ea, hg, hc⟩ : ∃ g o, a = some ⟨g, o, none⟩ ∧ g < w.heap.size ∧ ∀ i, i < fs.length → w.rangeAt g (o + i * 4) (fcells (fs.getD i (0, 0))) := by
        rcases HM.out with ⟨_, h⟩ | h
        · have := EN.out; omega
        · exact h
      subst ea
      have hr := range_below (hc k (by rw [← EN.out]; exact hkn)) HB.out hg
      obtain ⟨⟨x, y⟩, hxy⟩ : ∃ f, f = fs.getD k (0, 0) := ⟨_, rfl⟩
      rw [← hxy] at hr
      have c0 : wr.cell? ⟨gc, o + k * 4, none⟩ = some (.int .i64 x) := by have := hr 0 _ rfl; rw [Nat.add_zero] at this; exact this
      have r3 : wr.rangeAt gc (o + k * 4 + 1) [.bool false, .int .i64 y, .string ⟨#[]⟩] := fun j v hv => by
        have := hr (j + 1) v (by simpa [fcells] using hv)
        rw [show o + k * 4 + 1 + j = o + k * 4 + (j + 1) by omega]
        exact this
      have HR3 := Lib.hid r3
      by_cases e : k = posR fs id
      · have ht := posR_at fs id (by rw [← e, ← EN.out]; exact hkn)
        rw [← e, ← hxy] at ht
        simp only at ht
        have HVR := Lib.hid (show valR fs id = .agg #[.bool false, .int .i64 y, .string ⟨#[]⟩] by rw [valR, numR, ← e, if_pos (by rw [← EN.out]; exact hkn), ← hxy]; rfl)
        clear hr hc hxy hk r3 e
        go_wp2_with (first | ((with_reducible show wpList _ _ _ (Oper.mk _ (Op.load _ _) _ _ _ _ :: _) _ _); refine wpList_load_mid rfl 78 (.tmp 25) rfl gc (o + k * 4 + 1) rfl [.bool false, .int .i64 y, .string ⟨#[]⟩] _ HR3.out Tryd.underlying78 rfl Tryd.n78 ?_) | ((with_reducible show wpList _ _ _ (Oper.mk _ (Op.store _ _ _) _ _ _ _ :: _) _ _); refine wpList_put_arr rfl 78 (.tmp 4) (.tmp 26) rfl rfl (g + 1) 78 _ #[.bool false, .int .i64 y, .string ⟨#[]⟩] rfl rfl HR1.out Tryd.n78 rfl (one_val _ _) ?_))
        try simp only [Exit.inBlock, Exit.then]
        refine bodyPost_ret (results_cell_row (p := 4) (ty := 78) rfl _ _ (g + 1) 78 #[.bool false, .int .i64 y, .string ⟨#[]⟩] (0, 0) _ rfl (Row.setRow HR1.out _) Tryd.underlying78 rfl Tryd.n78) rfl ?_
        exact ⟨by rw [HVR.out], by have h := HBP.out; first | exact h _ | (rw [ez] at h; exact h _)⟩
      · have ht := posR_lt fs id k (by omega) (by rw [← EN.out]; exact hkn)
        rw [← hxy] at ht
        simp only at ht
        have HN := Lib.hid (show k < posR fs id by omega)
        have HKN := Lib.hid hkn
        clear hr hc hxy hk r3 e hkn
        go_wp2_with fail
        go_roundw
        case rel => exact ⟨k + 1, HN.out, by go_num, by first | rfl | trivial⟩
        case measure => have := HKN.out; simp [intOf] <;> omega
    · have ki : ¬ (k : Int) < (n : Int) := by omega
      have HVR := Lib.hid (show valR fs id = .agg #[.bool true, .int .i64 0, .string ⟨#[]⟩] by rw [valR, numR, if_neg (by have := EN.out; omega)]; rfl)
      clear hkn hk
      go_wp2_with (first | ((with_reducible show wpList _ _ _ (Oper.mk _ (Op.store _ _ _) _ _ _ _ :: _) _ _); refine wpList_put_arr rfl 78 (.tmp 4) (.tmp 27) rfl rfl (g + 1) 78 _ #[.bool true, .int .i64 0, .string ⟨#[]⟩] rfl rfl HR1.out Tryd.n78 rfl (one_val _ _) ?_))
      refine bodyPost_ret (results_cell_row (p := 4) (ty := 78) rfl _ _ (g + 1) 78 #[.bool true, .int .i64 0, .string ⟨#[]⟩] (0, 0) _ rfl (Row.setRow HR1.out _) Tryd.underlying78 rfl Tryd.n78) rfl ?_
      exact ⟨by rw [HVR.out], by have h := HBP.out; first | exact h _ | (rw [ez] at h; exact h _)⟩

theorem rfield_any (a : Option Addr) (n c : Nat) (fs : List (Int × Int)) (id : Int) (w : World) (hR : RowM w (.slice a n c) fs) (en : n = fs.length) :
    Calls Tryd.prog 47 #[.agg #[.slice a n c], .int .i64 id] w fun e w' => e = .returned (.tuple #[.int .i64 (numR fs id).1, .bool (numR fs id).2]) ∧ Below w.heap.size w w' := by
  obtain ⟨g, eg⟩ : ∃ g, g = w.heap.size := ⟨_, rfl⟩
  obtain ⟨W0, hW0⟩ : ∃ W, W = w.alloc (.cells #[.slice a n c] 76) := ⟨_, rfl⟩
  have hb : Below w.heap.size w W0 := by rw [hW0]; exact (Below.refl _ _).alloc (Nat.le_refl _) _
  have R0 : Row W0 g 76 #[.slice a n c] := by rw [hW0]; exact Row.new' 76 _ eg
  have CALL := get_any a n c fs id W0 (hR.below hb (Nat.le_refl _)) en
  unfold valR at CALL
  obtain ⟨⟨x, ok⟩, hxo⟩ : ∃ t, t = numR fs id := ⟨_, rfl⟩
  rw [← hxo] at CALL ⊢
  simp only at CALL ⊢
  have HC := Lib.hid CALL
  have ez : w.heap.size = g := eg.symm
  have HW0 := Lib.hid hW0
  have EG := Lib.hid eg
  have HB := Lib.hid hb
  have HR0 := Lib.hid R0
  clear hW0 eg hb R0 CALL hxo hR en
  go_enter Tryd.func47, Tryd.ntmps47
  go_wp2_with (first | ((with_reducible show wpList _ _ _ (Oper.mk _ (Op.box _ _) _ _ _ _ :: _) _ _); (refine wpList_box_row rfl 76 (.tmp 0) rfl _ rfl g EG.out ?_; refine wpList_atE HW0.out ?_)) | ((with_reducible show wpList _ _ _ (Oper.mk _ (Op.load _ _) _ _ _ _ :: _) _ _); refine wpList_load_row rfl 76 (.tmp 2) rfl g rfl 76 #[.slice a n c] (0, 0) _ HR0.out Tryd.underlying76 rfl Tryd.n76 ?_))
  refine HC.out.mono ?_
  rintro e w1 ⟨rfl, b1⟩
  obtain ⟨g6, hg6⟩ : ∃ x, x = w1.heap.size := ⟨_, rfl⟩
  obtain ⟨W2, hW2⟩ : ∃ W, W = w1.alloc (.cells #[.bool (!ok), .int .i64 x, .string ⟨#[]⟩] 78) := ⟨_, rfl⟩
  have HB2 := Lib.hid (show Below w.heap.size w W2 by rw [hW2]; exact (HB.out.trans (b1.mono HB.out.size)).alloc (Nat.le_trans HB.out.size b1.size) _)
  have R2 : Row W2 g6 78 #[.bool (!ok), .int .i64 x, .string ⟨#[]⟩] := by rw [hW2]; exact Row.new' 78 _ hg6
  have q0 := R2.cell 0
  have q1 := R2.cell 1
  simp only [List.getElem?_toArray, List.getElem?_cons_zero, List.getElem?_cons_succ] at q0 q1
  have HG6 := Lib.hid hg6
  have HW2 := Lib.hid hW2
  clear hg6 hW2 b1 R2
  go_wp2_with (first | ((with_reducible show wpList _ _ _ (Oper.mk _ (Op.alloc _) _ _ _ _ :: _) _ _); (refine wpList_new_row rfl rfl 78 6 (.tmp 9) rfl rfl rfl rfl g6 HG6.out #[.bool (!ok), .int .i64 x, .string ⟨#[]⟩] rfl rfl _ Tryd.z78 Tryd.n78 rfl (one_val _ _) ?_; refine wpList_atE HW2.out ?_)))
  go_quiet (fail)
  go_wp2_with fail
  go_ret2
  exact ⟨by simp, by have h := below_drewN HB2.out nq; first | exact h | (rw [ez] at h; exact h)⟩
end Go.Proofs.YtnpkbjekodjcjaaDoor

set_option linter.all false
namespace Go.Proofs.YtnpkbjekodjcjaaDoor
open Go.RowKit Go.Fen Hil
set_option linter.unusedVariables false
set_option maxHeartbeats 4000000

abbrev B64 (x : Int) : Prop := -9223372036854775808 ≤ x ∧ x < 9223372036854775808
/-- the bounds so far -/
def loR (L : List (List (Int × Int))) (id : Int) (k : Nat) : Int := if (numsR L id k).length = 0 then 0 else mnU (numsR L id k) (numsR L id k).length
def hiR (L : List (List (Int × Int))) (id : Int) (k : Nat) : Int := if (numsR L id k).length = 0 then 0 else mxU (numsR L id k) (numsR L id k).length
def anyR (L : List (List (Int × Int))) (id : Int) (k : Nat) : Bool := decide ((numsR L id k).length ≠ 0)

theorem mnU_snoc (xs : List Int) (x : Int) (h : xs.length ≠ 0) : ∀ k, k ≤ xs.length → mnU (xs ++ [x]) k = mnU xs k
  | 0, _ => by simp only [mnU, List.getD]; rw [List.getElem?_append_left (by omega)]
  | k + 1, hk => by
    rw [mnU, mnU, mnU_snoc xs x h k (by omega)]
    simp only [List.getD]
    rw [List.getElem?_append_left (by omega)]
theorem mxU_snoc (xs : List Int) (x : Int) (h : xs.length ≠ 0) : ∀ k, k ≤ xs.length → mxU (xs ++ [x]) k = mxU xs k
  | 0, _ => by simp only [mxU, List.getD]; rw [List.getElem?_append_left (by omega)]
  | k + 1, hk => by
    rw [mxU, mxU, mxU_snoc xs x h k (by omega)]
    simp only [List.getD]
    rw [List.getElem?_append_left (by omega)]
theorem step_none (L : List (List (Int × Int))) (id : Int) (k : Nat) (h : (numR (L.getD k []) id).2 = false) : loR L id (k + 1) = loR L id k ∧ hiR L id (k + 1) = hiR L id k ∧ anyR L id (k + 1) = anyR L id k := by
  have e : numsR L id (k + 1) = numsR L id k := by rw [numsR, h]; simp
  unfold loR hiR anyR
  rw [e]
  exact ⟨rfl, rfl, rfl⟩
theorem step_one (L : List (List (Int × Int))) (id x : Int) (k : Nat) (h : numR (L.getD k []) id = (x, true)) (ha : anyR L id k = false) : loR L id (k + 1) = x ∧ hiR L id (k + 1) = x ∧ anyR L id (k + 1) = true := by
  have e : numsR L id (k + 1) = numsR L id k ++ [x] := by rw [numsR, h]; simp
  have e0 : numsR L id k = [] := by
    unfold anyR at ha
    exact List.eq_nil_of_length_eq_zero (by simpa using ha)
  unfold loR hiR anyR
  rw [e, e0]
  simp [mnU, mxU]
theorem step_more (L : List (List (Int × Int))) (id x : Int) (k : Nat) (h : numR (L.getD k []) id = (x, true)) (ha : anyR L id k = true) :
    loR L id (k + 1) = (if x < loR L id k then x else loR L id k) ∧ hiR L id (k + 1) = (if hiR L id k < x then x else hiR L id k) ∧ anyR L id (k + 1) = true := by
  have e : numsR L id (k + 1) = numsR L id k ++ [x] := by rw [numsR, h]; simp
  have e0 : (numsR L id k).length ≠ 0 := by unfold anyR at ha; simpa using ha
  unfold loR hiR anyR
  have f0 : ¬ (numsR L id k ++ [x]).length = 0 := by simp
  have f1 : (numsR L id k ++ [x]).length = (numsR L id k).length + 1 := by simp
  rw [e, if_neg e0, if_neg e0, if_neg f0, if_neg f0, f1, mnU, mxU, mnU_snoc _ _ e0 _ (Nat.le_refl _), mxU_snoc _ _ e0 _ (Nat.le_refl _)]
  have g : (numsR L id k ++ [x]).getD (numsR L id k).length 0 = x := by simp [List.getD]
  rw [g]
  refine ⟨?_, ?_, by simp⟩
  · split <;> omega
  · split <;> omega
theorem bounds_R (L : List (List (Int × Int))) (id : Int) : ∀ k, (∀ i, i < k → B64 (numR (L.getD i []) id).1) → B64 (loR L id k) ∧ B64 (hiR L id k)
  | 0, _ => by simp [loR, hiR, numsR, B64]
  | k + 1, h => by
    have ih := bounds_R L id k (fun i hi => h i (by omega))
    have hx := h k (by omega)
    cases hb : (numR (L.getD k []) id).2 with
    | false =>
      obtain ⟨e1, e2, _⟩ := step_none L id k hb
      rw [e1, e2]; exact ih
    | true =>
      have hp : numR (L.getD k []) id = ((numR (L.getD k []) id).1, true) := by rw [← hb]
      cases ha : anyR L id k with
      | false =>
        obtain ⟨e1, e2, _⟩ := step_one L id _ k hp ha
        rw [e1, e2]; exact ⟨hx, hx⟩
      | true =>
        obtain ⟨e1, e2, _⟩ := step_more L id _ k hp ha
        rw [e1, e2]
        constructor
        · split
          · exact hx
          · exact ih.1
        · split
          · exact hx
          · exact ih.2
theorem nums_pos (L : List (List (Int × Int))) (id : Int) (i : Nat) (h : (numR (L.getD i []) id).2 = true) : ∀ n, i < n → (numsR L id n).length ≠ 0
  | n + 1, hn => by
    rw [numsR]
    by_cases e : i = n
    · subst e
      rw [if_pos h]; simp
    · have := nums_pos L id i h n (by omega)
      split
      · simp
      · exact this
theorem coordR_eq (L : List (List (Int × Int))) (id : Int) (k n i : Nat) (hi : i < n) (k1 : 1 ≤ k) (k2 : k ≤ 16) : coordR L id k n i = if (numR (L.getD i []) id).2 = true then sclK (numR (L.getD i []) id).1 (loR L id n) (hiR L id n) k else 0 := by
  unfold coordR
  by_cases h : (numR (L.getD i []) id).2 = true
  · rw [if_pos h, if_pos h, sclK, if_neg (by omega), loR, hiR, if_neg (nums_pos L id i h n hi), if_neg (nums_pos L id i h n hi), Int.toNat_natCast]
  · rw [if_neg h, if_neg h]

/-- a slice of numbers of 32 bits lies in memory -/
def W32M (w : World) (a : Option Addr) (f : Nat → Nat) (n : Nat) : Prop := (a = none ∧ n = 0) ∨ ∃ g o, a = some ⟨g, o, none⟩ ∧ g < w.heap.size ∧ ∀ i, i < n → w.cell? ⟨g, o + i, none⟩ = some (.int .u32 (f i))
theorem W32M.below {w w' : World} {B : Nat} {a : Option Addr} {f : Nat → Nat} {n : Nat} (h : W32M w a f n) (hb : Below B w w') (hB : w.heap.size ≤ B) : W32M w' a f n := by
  rcases h with h | ⟨g, o, ea, hg, hc⟩
  · exact .inl h
  · exact .inr ⟨g, o, ea, Nat.lt_of_lt_of_le hg hb.size, fun i hi => (hb.cell (p := ⟨g, o + i, none⟩) (Nat.lt_of_lt_of_le hg hB)).trans (hc i hi)⟩
def vals32 (f : Nat → Nat) (n : Nat) : List Value := (List.range n).map fun i => .int .u32 (f i)
theorem vals32_succ (f : Nat → Nat) (n : Nat) : vals32 f n ++ [.int .u32 (f n)] = vals32 f (n + 1) := by simp [vals32, List.range_succ]
theorem w32_of_own {w : World} {base n : Nat} {e : TypeId} {v : Value} {f : Nat → Nat} (h : w.ownsRow base e 1 v n (vals32 f n)) : ∃ a c, v = .slice a n c ∧ W32M w a f n := by
  rcases h.2 with ⟨hv, h0⟩ | ⟨g, cap, cur, hv, hbg, hg, r⟩
  · subst h0; exact ⟨none, 0, hv, .inl ⟨rfl, rfl⟩⟩
  · refine ⟨some ⟨g, 0, none⟩, cap, hv, .inr ⟨g, 0, rfl, (Array.getElem?_eq_some_iff.1 hg).1, fun i hi => ?_⟩⟩
    subst hv
    have := h.cellAt i (by omega)
    rw [Nat.zero_add, this]
    simp [vals32, hi]
theorem Tryd.info22 : (Tryd.prog.info? 22).map (fun i => (i.zero, i.size, i.bytes)) = some (some (.int .u32 0), 1, 4) := by kernel_rfl

set_option maxRecDepth 20000 in
theorem coords_any (a : Option Addr) (L : List (List (Int × Int))) (n c k : Nat) (id : Int) (w : World) (en : n = L.length) (hn : n ≤ 1000000) (hM : RowsM w a L) (k1 : 1 ≤ k) (k2 : k ≤ 16) (hB64 : ∀ i, i < n → B64 (numR (L.getD i []) id).1) :
    Calls Tryd.prog 36 #[.slice a n c, .int .i64 id, .int .i64 k] w fun e w' => ∃ a' c', e = .returned (.slice a' n c') ∧ W32M w' a' (coordR L id k n) n ∧ Below w.heap.size w w' := by
  have EN := Lib.hid en
  have HM := Lib.hid hM
  have HBB := Lib.hid hB64
  have HBR := Lib.hid (bounds_R L id n hB64)
  clear en hM hB64
  go_enter Tryd.func36, Tryd.ntmps36
  go_wp2_with fail
  go_loopw [7, 8, 9, 10, 11, 12] (fun lv hv av iv _ _ wr => ∃ i : Nat, i ≤ n ∧ lv = .int .i64 (loR L id i) ∧ hv = .int .i64 (hiR L id i) ∧ av = .bool (anyR L id i) ∧ iv = .int .i64 i ∧ Below w.heap.size w wr) (fun _ _ _ iv _ _ _ => n - (intOf iv).toNat)
  case atStart => exact ⟨0, Nat.zero_le _, rfl, rfl, rfl, rfl, Below.refl _ _⟩
  case round =>
    obtain ⟨i, hi, rfl, rfl, rfl, rfl, hb⟩ := hrel
    have HBr := Lib.hid hb
    clear hb
    by_cases hin : i < n
    · have ii : (i : Int) < (n : Int) := by omega
      have HI := Lib.hid hin
      obtain ⟨ga, oa, ea, hga, hc⟩ : ∃ g o, a = some ⟨g, o, none⟩ ∧ g < w.heap.size ∧ ∀ i, i < L.length → ∃ v, w.cell? ⟨g, o + i, none⟩ = some v ∧ RowM w v (L.getD i []) := by
        rcases HM.out with ⟨_, h⟩ | h
        · have := EN.out; omega
        · exact h
      subst ea
      obtain ⟨rv, hrv, hrm⟩ := hc i (by rw [← EN.out]; exact HI.out)
      have hrm' := hrm.below HBr.out (Nat.le_refl _)
      have hr : wr.rangeAt ga (oa + i) [rv] := fun jj x hx => by
        match jj, hx with
        | 0, hx => simp at hx; subst hx; exact (HBr.out.cell (p := ⟨ga, oa + i, none⟩) hga).trans hrv
        | (jj + 1), hx => simp at hx
      have hrm2 := hrm'
      obtain ⟨av, cv, evv, hlv, hMv⟩ := hrm2
      obtain ⟨fs, hfs⟩ : ∃ fs, fs = L.getD i [] := ⟨_, rfl⟩
      rw [← hfs] at hrm' evv hlv
      obtain ⟨m, hm⟩ : ∃ m, m = fs.length := ⟨_, rfl⟩
      rw [← hm] at evv
      subst evv
      have NUM := rfield_any av m cv fs id wr hrm' hm
      obtain ⟨⟨x, ok⟩, hxo⟩ : ∃ t, t = numR fs id := ⟨_, rfl⟩
      rw [← hxo] at NUM
      simp only at NUM
      have HNUM := Lib.hid NUM
      have HRR := Lib.hid hr
      obtain ⟨lo, hlo⟩ : ∃ x, x = loR L id i := ⟨_, rfl⟩
      obtain ⟨hi', hhi⟩ : ∃ x, x = hiR L id i := ⟨_, rfl⟩
      obtain ⟨an, han⟩ : ∃ x, x = anyR L id i := ⟨_, rfl⟩
      rw [← hlo, ← hhi, ← han]
      have E0 := Lib.hid (fun (h : ok = false) => step_none L id i (by rw [← hfs, ← hxo, h]))
      have E1 := Lib.hid (fun (h : ok = true) (ha : an = false) => step_one L id x i (by rw [← hfs, ← hxo, h]) (by rw [← han, ha]))
      have E2 := Lib.hid (fun (h : ok = true) (ha : an = true) => step_more L id x i (by rw [← hfs, ← hxo, h]) (by rw [← han, ha]))
      have HLO := Lib.hid hlo
      have HHI := Lib.hid hhi
      have HAN := Lib.hid han
      clear NUM hr hrm hrm' hc hrv hMv hlv hxo hfs hm hin hi
      clear hlo hhi han
      cases hok : ok with
      | false =>
        have S := Lib.hid (E0.out hok)
        clear E0 E1 E2
        subst hok
        cases han : an with
        | false =>
          subst han
          go_wp2_with (first | ((with_reducible show wpList _ _ _ (Oper.mk _ (Op.load _ _) _ _ _ _ :: _) _ _); refine wpList_load_mid rfl 76 (.tmp 27) rfl ga (oa + i) rfl [.slice av m cv] _ HRR.out Tryd.underlying76 rfl Tryd.n76 ?_))
          refine HNUM.out.mono ?_
          rintro e w2 ⟨rfl, b3⟩
          have HB3 := Lib.hid (bel_tr HBr.out b3)
          clear b3
          go_wp2_with fail
          go_roundw
          case rel =>
            obtain ⟨s1, s2, s3⟩ := S.out
            exact ⟨i + 1, HI.out, by rw [s1, ← HLO.out], by rw [s2, ← HHI.out], by rw [s3, ← HAN.out], by go_num, HB3.out⟩
          case measure => have := HI.out; simp [intOf] <;> omega
        | true =>
          subst han
          go_wp2_with (first | ((with_reducible show wpList _ _ _ (Oper.mk _ (Op.load _ _) _ _ _ _ :: _) _ _); refine wpList_load_mid rfl 76 (.tmp 27) rfl ga (oa + i) rfl [.slice av m cv] _ HRR.out Tryd.underlying76 rfl Tryd.n76 ?_))
          refine HNUM.out.mono ?_
          rintro e w2 ⟨rfl, b3⟩
          have HB3 := Lib.hid (bel_tr HBr.out b3)
          clear b3
          go_wp2_with fail
          go_roundw
          case rel =>
            obtain ⟨s1, s2, s3⟩ := S.out
            exact ⟨i + 1, HI.out, by rw [s1, ← HLO.out], by rw [s2, ← HHI.out], by rw [s3, ← HAN.out], by go_num, HB3.out⟩
          case measure => have := HI.out; simp [intOf] <;> omega
      | true =>
        cases han : an with
        | false =>
          have S := Lib.hid (E1.out hok han)
          clear E0 E1 E2
          subst hok han
          go_wp2_with (first | ((with_reducible show wpList _ _ _ (Oper.mk _ (Op.load _ _) _ _ _ _ :: _) _ _); refine wpList_load_mid rfl 76 (.tmp 27) rfl ga (oa + i) rfl [.slice av m cv] _ HRR.out Tryd.underlying76 rfl Tryd.n76 ?_))
          refine HNUM.out.mono ?_
          rintro e w2 ⟨rfl, b3⟩
          have HB3 := Lib.hid (bel_tr HBr.out b3)
          clear b3
          go_wp2_with fail
          go_roundw
          case rel =>
            obtain ⟨s1, s2, s3⟩ := S.out
            exact ⟨i + 1, HI.out, by rw [s1], by rw [s2], by rw [s3], by go_num, HB3.out⟩
          case measure => have := HI.out; simp [intOf] <;> omega
        | true =>
          have S := Lib.hid (E2.out hok han)
          clear E0 E1 E2
          subst hok han
          by_cases p : x < lo
          · have p1 : decide (x < lo) = true := decide_eq_true p
            by_cases q : hi' < x
            · have q1 : decide (hi' < x) = true := decide_eq_true q
              have S2 := Lib.hid (And.intro p q)
              clear p q
              go_wp2_with (first | ((with_reducible show wpList _ _ _ (Oper.mk _ (Op.load _ _) _ _ _ _ :: _) _ _); refine wpList_load_mid rfl 76 (.tmp 27) rfl ga (oa + i) rfl [.slice av m cv] _ HRR.out Tryd.underlying76 rfl Tryd.n76 ?_))
              refine HNUM.out.mono ?_
              rintro e w2 ⟨rfl, b3⟩
              have HB3 := Lib.hid (bel_tr HBr.out b3)
              clear b3
              go_wp2_with fail
              go_roundw
              case rel =>
                obtain ⟨s1, s2, s3⟩ := S.out
                obtain ⟨p, q⟩ := S2.out
                rw [← HLO.out] at s1
                rw [← HHI.out] at s2
                rw [if_pos p] at s1
                rw [if_pos q] at s2
                exact ⟨i + 1, HI.out, by rw [s1], by rw [s2], by rw [s3], by go_num, HB3.out⟩
              case measure => have := HI.out; simp [intOf] <;> omega
            · have q1 : decide (hi' < x) = false := decide_eq_false q
              have S2 := Lib.hid (And.intro p q)
              clear p q
              go_wp2_with (first | ((with_reducible show wpList _ _ _ (Oper.mk _ (Op.load _ _) _ _ _ _ :: _) _ _); refine wpList_load_mid rfl 76 (.tmp 27) rfl ga (oa + i) rfl [.slice av m cv] _ HRR.out Tryd.underlying76 rfl Tryd.n76 ?_))
              refine HNUM.out.mono ?_
              rintro e w2 ⟨rfl, b3⟩
              have HB3 := Lib.hid (bel_tr HBr.out b3)
              clear b3
              go_wp2_with fail
              go_roundw
              case rel =>
                obtain ⟨s1, s2, s3⟩ := S.out
                obtain ⟨p, q⟩ := S2.out
                rw [← HLO.out] at s1
                rw [← HHI.out] at s2
                rw [if_pos p] at s1
                rw [if_neg (by omega)] at s2
                exact ⟨i + 1, HI.out, by rw [s1], by rw [s2], by rw [s3], by go_num, HB3.out⟩
              case measure => have := HI.out; simp [intOf] <;> omega
          · have p1 : decide (x < lo) = false := decide_eq_false p
            by_cases q : hi' < x
            · have q1 : decide (hi' < x) = true := decide_eq_true q
              have S2 := Lib.hid (And.intro p q)
              clear p q
              go_wp2_with (first | ((with_reducible show wpList _ _ _ (Oper.mk _ (Op.load _ _) _ _ _ _ :: _) _ _); refine wpList_load_mid rfl 76 (.tmp 27) rfl ga (oa + i) rfl [.slice av m cv] _ HRR.out Tryd.underlying76 rfl Tryd.n76 ?_))
              refine HNUM.out.mono ?_
              rintro e w2 ⟨rfl, b3⟩
              have HB3 := Lib.hid (bel_tr HBr.out b3)
              clear b3
              go_wp2_with fail
              go_roundw
              case rel =>
                obtain ⟨s1, s2, s3⟩ := S.out
                obtain ⟨p, q⟩ := S2.out
                rw [← HLO.out] at s1
                rw [← HHI.out] at s2
                rw [if_neg (by omega)] at s1
                rw [if_pos q] at s2
                exact ⟨i + 1, HI.out, by rw [s1], by rw [s2], by rw [s3], by go_num, HB3.out⟩
              case measure => have := HI.out; simp [intOf] <;> omega
            · have q1 : decide (hi' < x) = false := decide_eq_false q
              have S2 := Lib.hid (And.intro p q)
              clear p q
              go_wp2_with (first | ((with_reducible show wpList _ _ _ (Oper.mk _ (Op.load _ _) _ _ _ _ :: _) _ _); refine wpList_load_mid rfl 76 (.tmp 27) rfl ga (oa + i) rfl [.slice av m cv] _ HRR.out Tryd.underlying76 rfl Tryd.n76 ?_))
              refine HNUM.out.mono ?_
              rintro e w2 ⟨rfl, b3⟩
              have HB3 := Lib.hid (bel_tr HBr.out b3)
              clear b3
              go_wp2_with fail
              go_roundw
              case rel =>
                obtain ⟨s1, s2, s3⟩ := S.out
                obtain ⟨p, q⟩ := S2.out
                rw [← HLO.out] at s1
                rw [← HHI.out] at s2
                rw [if_neg (by omega)] at s1
                rw [if_neg (by omega)] at s2
                exact ⟨i + 1, HI.out, by rw [s1], by rw [s2], by rw [s3], by go_num, HB3.out⟩
              case measure => have := HI.out; simp [intOf] <;> omega
    · obtain rfl : i = n := by omega
      have ii : ¬ (i : Int) < (i : Int) := by omega
      obtain ⟨lo, hlo⟩ : ∃ x, x = loR L id i := ⟨_, rfl⟩
      obtain ⟨hi', hhi⟩ : ∃ x, x = hiR L id i := ⟨_, rfl⟩
      have HLO := Lib.hid hlo
      have HHI := Lib.hid hhi
      rw [← hlo, ← hhi]
      have bd := HBR.out
      rw [← hlo, ← hhi] at bd
      have HBD := Lib.hid bd
      obtain ⟨wq, hwq⟩ : ∃ W, W = wr := ⟨_, rfl⟩
      subst hwq
      obtain ⟨B, hB⟩ : ∃ B, B = wq.heap.size := ⟨_, rfl⟩
      obtain ⟨W1, hW1⟩ : ∃ W, W = wq.alloc (.cells #[] 22) := ⟨_, rfl⟩
      have B0 : Buf B 22 (.slice (some ⟨B, 0, none⟩) 0 0) 0 (vals32 (coordR L id k i) 0) wq W1 := by
        rw [hW1]
        exact Buf.lit (Below.refl _ _) (by rw [hB]; exact Nat.le_refl _) #[] 0 rfl (by decide) B hB
      have HB0 := Lib.hid B0
      have HW1 := Lib.hid hW1
      have HB := Lib.hid hB
      have ez : wq.heap.size = B := hB.symm
      clear hlo hhi bd B0 hW1 hB hin hi
      go_wp2_with (first | ((with_reducible (refine wpList_atE HW1.out ?_))))
      rw [← HW1.out]
      go_loopw [13, 14, 15, 16, 17] (fun v jv _ _ _ wx => ∃ j : Nat, j ≤ i ∧ jv = .int .i64 j ∧ Buf B 22 v j (vals32 (coordR L id k i) j) wq wx) (fun _ jv _ _ _ _ => i - (intOf jv).toNat)
      case atStart => exact ⟨0, Nat.zero_le _, rfl, HB0.out⟩
      case round =>
        obtain ⟨j, hj, rfl, hbuf⟩ := hrel
        have HBr' := Lib.hid (HBr.out.trans (hbuf.2.1.mono (by rw [← ez]; exact HBr.out.size)))
        have HBUF := Lib.hid hbuf
        clear hbuf
        by_cases hjn : j < i
        · have ji : (j : Int) < (i : Int) := by omega
          have HI := Lib.hid hjn
          obtain ⟨ga, oa, ea, hga, hc⟩ : ∃ g o, a = some ⟨g, o, none⟩ ∧ g < w.heap.size ∧ ∀ i, i < L.length → ∃ v, w.cell? ⟨g, o + i, none⟩ = some v ∧ RowM w v (L.getD i []) := by
            rcases HM.out with ⟨_, h⟩ | h
            · have := EN.out; omega
            · exact h
          subst ea
          obtain ⟨rv, hrv, hrm⟩ := hc j (by rw [← EN.out]; exact HI.out)
          have hrm' := hrm.below HBr'.out (Nat.le_refl _)
          have hr : wr.rangeAt ga (oa + j) [rv] := fun jj x hx => by
            match jj, hx with
            | 0, hx => simp at hx; subst hx; exact (HBr'.out.cell (p := ⟨ga, oa + j, none⟩) hga).trans hrv
            | (jj + 1), hx => simp at hx
          have hrm2 := hrm'
          obtain ⟨av, cv, evv, hlv, hMv⟩ := hrm2
          obtain ⟨fs, hfs⟩ : ∃ fs, fs = L.getD j [] := ⟨_, rfl⟩
          rw [← hfs] at hrm' evv hlv
          obtain ⟨m, hm⟩ : ∃ m, m = fs.length := ⟨_, rfl⟩
          rw [← hm] at evv
          subst evv
          have NUM := rfield_any av m cv fs id wr hrm' hm
          obtain ⟨⟨x, ok⟩, hxo⟩ : ∃ t, t = numR fs id := ⟨_, rfl⟩
          rw [← hxo] at NUM
          simp only at NUM
          have HNUM := Lib.hid NUM
          have HRR := Lib.hid hr
          have CE := coordR_eq L id k i j hjn k1 k2
          rw [← hfs, ← hxo] at CE
          simp only [← HLO.out, ← HHI.out] at CE
          have xb := HBB.out j hjn
          rw [← hfs, ← hxo] at xb
          simp only at xb
          clear NUM hr hrm hrm' hc hrv hMv hlv hxo hfs hm hjn hj
          cases hok : ok with
          | false =>
            rw [hok] at CE
            have CV := Lib.hid (show coordR L id k i j = 0 by rw [CE]; rfl)
            subst hok
            clear CE xb
            go_wp2_with (first | ((with_reducible show wpList _ _ _ (Oper.mk _ (Op.load _ _) _ _ _ _ :: _) _ _); refine wpList_load_mid rfl 76 (.tmp 69) rfl ga (oa + j) rfl [.slice av m cv] _ HRR.out Tryd.underlying76 rfl Tryd.n76 ?_))
            refine HNUM.out.mono ?_
            rintro e w2 ⟨rfl, b3⟩
            have HBU := Lib.hid (HBUF.out.call b3)
            clear b3
            go_wp2_with (first | ((with_reducible show wpList _ _ _ (Oper.mk _ (Op.call _) _ _ _ _ :: _) _ _); (refine wpList_push rfl (.tmp 81) (.tmp 83) 86 rfl B 22 (.int .u32 0) 4 Tryd.underlying86 Tryd.info22 rfl _ j (vals32 (coordR L id k i) j) rfl wq w2 _ (.int .u32 0) rfl rfl HBU.out rfl (by unfold maxLen; omega) (by omega) (fun v' w' hv' _ => ?_); have HV := Lib.hid hv'; clear hv')))
            go_roundw
            case rel => exact ⟨j + 1, HI.out, by go_num, by rw [← vals32_succ, CV.out]; exact HV.out⟩
            case measure => have := HI.out; simp [intOf] <;> omega
          | true =>
            rw [hok] at CE
            have RS := Lib.hid (fun W => rscale_any x lo hi' k W xb HBD.out.1 HBD.out.2)
            obtain ⟨cc, hcc⟩ : ∃ c, c = sclK x lo hi' k := ⟨_, rfl⟩
            have RS1 := RS.out
            rw [← hcc] at RS1
            have HRS := Lib.hid RS1
            have CV := Lib.hid (show coordR L id k i j = cc by rw [CE, hcc]; rfl)
            subst hok
            clear CE xb RS RS1 hcc
            go_wp2_with (first | ((with_reducible show wpList _ _ _ (Oper.mk _ (Op.load _ _) _ _ _ _ :: _) _ _); refine wpList_load_mid rfl 76 (.tmp 69) rfl ga (oa + j) rfl [.slice av m cv] _ HRR.out Tryd.underlying76 rfl Tryd.n76 ?_))
            refine HNUM.out.mono ?_
            rintro e w2 ⟨rfl, b3⟩
            have HBU1 := Lib.hid (HBUF.out.call b3)
            clear b3
            go_wp2_with fail
            refine (HRS.out _).mono ?_
            rintro e w3 ⟨rfl, q3, rfl⟩
            have HBU := Lib.hid (HBU1.out.drewN q3)
            go_wp2_with (first | ((with_reducible show wpList _ _ _ (Oper.mk _ (Op.call _) _ _ _ _ :: _) _ _); (refine wpList_push rfl (.tmp 81) (.tmp 83) 86 rfl B 22 (.int .u32 0) 4 Tryd.underlying86 Tryd.info22 rfl _ j (vals32 (coordR L id k i) j) rfl wq (w2.drewN q3) _ (.int .u32 cc) rfl rfl HBU.out rfl (by unfold maxLen; omega) (by omega) (fun v' w' hv' _ => ?_); have HV := Lib.hid hv'; clear hv')))
            go_roundw
            case rel => exact ⟨j + 1, HI.out, by go_num, by rw [← vals32_succ, CV.out]; exact HV.out⟩
            case measure => have := HI.out; simp [intOf] <;> omega
        · obtain rfl : j = i := by omega
          have ji : ¬ (j : Int) < (j : Int) := by omega
          obtain ⟨a', c', ev, hW⟩ := w32_of_own HBUF.out.1
          have HW := Lib.hid hW
          have HBL := Lib.hid HBr'.out
          clear hjn hj hW HBUF
          subst ev
          go_wp2_with fail
          go_ret
          exact ⟨a', ⟨c', rfl⟩, HW.out, HBL.out⟩
end Go.Proofs.YtnpkbjekodjcjaaDoor
