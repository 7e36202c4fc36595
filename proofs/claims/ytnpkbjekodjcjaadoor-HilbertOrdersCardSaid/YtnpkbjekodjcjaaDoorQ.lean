/- The contract of hilbert.Order, given the scale and the sort. -/
import Derived.Test.YtnpkbjekodjcjaaDoorP
import Derived.Deep.Cut
import Derived.Deep.CutRange
import Derived.Deep.RegionLaw
import Derived.Test.YtnpkbjekodjcjaaDoorKit6
import Derived.Test.YtnpkbjekodjcjaaDoorKit7
import Derived.Test.YtnpkbjekodjcjaaDoorKit5
set_option linter.all false
namespace Go.Proofs.YtnpkbjekodjcjaaDoor
open Go.RowKit Go.Fen Hil
set_option linter.unusedVariables false
set_option maxHeartbeats 4000000

/-- the coordinate of a row -/
def coordR (L : List (List (Int × Int))) (id : Int) (k n i : Nat) : Nat :=
  if (numR (L.getD i []) id).2 = true then scl (numR (L.getD i []) id).1 (mnU (numsR L id n) (numsR L id n).length) (mxU (numsR L id n) (numsR L id n).length) k else 0
/-- the key of a row -/
def keyR (L : List (List (Int × Int))) (id0 id1 : Int) (k n i : Nat) : Nat := idx k (coordR L id0 k n i) (coordR L id1 k n i)
/-- the scale serves at these rows -/
def ScOk (L : List (List (Int × Int))) (id : Int) (k n : Nat) : Prop :=
  ∀ i, i < n → (numR (L.getD i []) id).2 = true → 0 < (numsR L id n).length ∧ ∀ w, Calls Tryd.prog 15 #[.int .i64 (numR (L.getD i []) id).1, .int .i64 (mnU (numsR L id n) (numsR L id n).length), .int .i64 (mxU (numsR L id n) (numsR L id n).length), .int .i64 k] w fun e w' =>
    e = .returned (.int .u32 (coordR L id k n i)) ∧ ∃ q, w' = w.drewN q
/-- the sort serves at this length -/
def SortOk (n : Nat) : Prop := ∀ (gd t c bk gk m cm : Nat) (D K : List Nat) (w : World), Row w gd t (nc D) → KeysM w bk gk m cm K → n = D.length → m ≤ 1000000 → bk ≠ gd → gk ≠ gd →
    (∀ i, i < D.length → at' D i < m) → (∀ p q, p < q → q < n → at' D p < at' D q) →
    Calls Tryd.prog 33 #[.slice (some ⟨gd, 0, none⟩) n c, .func (.func 34) #[] #[.pointer (some ⟨bk, 0, none⟩)]] w (Sorts w gd t n D K)

section
variable {P : Program} {ops : Array Oper} {Q : Exit → Act → World → Prop} {S : World → Prop} {md : Region.Mode} {a : Act} {w : World}
/-- one of two operations may come up -/
theorem wpAnyH_two {i j : Nat} {o o' : Oper} {fuel : Nat} {listed : Array Bool} (hr : Region.ready md ops listed = [i, j]) (ho : ops[i]? = some o) (ho' : ops[j]? = some o') (hw : Region.wanted o (yielded ops a.tmps) = true) (hw' : Region.wanted o' (yielded ops a.tmps) = true)
    (h : o.wp P a w (fun a' w' => S w' ∧ wpAnyH P md ops Q S fuel (listed.setIfInBounds i true) a' w') Q) (h' : o'.wp P a w (fun a' w' => S w' ∧ wpAnyH P md ops Q S fuel (listed.setIfInBounds j true) a' w') Q) : wpAnyH P md ops Q S (fuel + 1) listed a w := by
  refine wpAnyH_all hr (by simp) ?_
  intro k hk
  simp only [List.mem_cons, List.not_mem_nil, or_false] at hk
  rcases hk with rfl | rfl
  · unfold wpOp; simp only [ho, hw, if_true]; exact .inl h
  · unfold wpOp; simp only [ho', hw', if_true]; exact .inl h'
end

def uc (K : List Nat) : Array Value := (K.map fun (x : Nat) => Value.int .u64 (x : Int)).toArray
theorem size_uc (K : List Nat) : (uc K).size = K.length := by simp [uc]
theorem get_uc (K : List Nat) (i : Nat) (h : i < K.length) : (uc K)[i]? = some (.int .u64 (K.getD i 0)) := by simp [uc, List.getD, h]
theorem set_uc (K : List Nat) (i x : Nat) : (uc K).setIfInBounds i (.int .u64 (x : Int)) = uc (K.set i x) := by simp [uc, List.map_set]
theorem madeU (n : Nat) : madeCells #[Value.int .u64 0] n = uc (List.replicate n 0) := by
  apply Array.ext
  · simp [madeCells, uc]
  · intro i h1 h2
    simp [madeCells, uc, Nat.mod_one]
theorem madeI (n : Nat) : madeCells #[Value.int .i64 0] n = nc (List.replicate n 0) := by
  apply Array.ext
  · simp [madeCells, nc, icells]
  · intro i h1 h2
    simp [madeCells, nc, icells, Nat.mod_one]
theorem Tryd.info24 : (Tryd.prog.info? 24).map (fun i => (i.zero, i.size, i.bytes)) = some (some (.int .u64 0), 1, 8) := by kernel_rfl
theorem Tryd.info3 : (Tryd.prog.info? 3).map (fun i => (i.zero, i.size, i.bytes)) = some (some (.int .i64 0), 1, 8) := by kernel_rfl
theorem make50 (n : Nat) (hn : n ≤ 1000000) (W : World) : (Instr.makeSlice 50 (.int .i64 (n : Int)) (.int .i64 (n : Int))).run Tryd.prog W = .ok (.slice (some ⟨W.heap.size, 0, none⟩) n n) (W.alloc (.cells (uc (List.replicate n 0)) 24)) := by
  have h := run_make_row' (P := Tryd.prog) 50 24 (.int .u64 0) 8 Tryd.underlying50 Tryd.info24 rfl .i64 .i64 n (by omega) (by omega)
  rw [madeU] at h
  exact h W
theorem make46 (n : Nat) (hn : n ≤ 1000000) (W : World) : (Instr.makeSlice 46 (.int .i64 (n : Int)) (.int .i64 (n : Int))).run Tryd.prog W = .ok (.slice (some ⟨W.heap.size, 0, none⟩) n n) (W.alloc (.cells (nc (List.replicate n 0)) 3)) := by
  have h := run_make_row' (P := Tryd.prog) 46 3 (.int .i64 0) 8 Tryd.underlying46 Tryd.info3 rfl .i64 .i64 n (by omega) (by omega)
  rw [madeI] at h
  exact h W

theorem three_blocks (w : World) (x y z : Array Value) (tx ty tz : TypeId) : Row (((w.alloc (.cells x tx)).alloc (.cells y ty)).alloc (.cells z tz)).drew w.heap.size tx x ∧ Row (((w.alloc (.cells x tx)).alloc (.cells y ty)).alloc (.cells z tz)).drew (w.heap.size + 1) ty y ∧
    Row (((w.alloc (.cells x tx)).alloc (.cells y ty)).alloc (.cells z tz)).drew (w.heap.size + 1 + 1) tz z ∧ Below w.heap.size w (((w.alloc (.cells x tx)).alloc (.cells y ty)).alloc (.cells z tz)).drew :=
  ⟨(((Row.new w tx x).alloc _).alloc _).drew, ((Row.new' ty y (by simp)).alloc _).drew, (Row.new' tz z (by simp)).drew, below_drewN ((((Below.refl _ _).alloc (Nat.le_refl _) _).alloc (by simp) _).alloc (by simp <;> omega) _) 1⟩

/-- the first i of n numbers come from f, the others are 0 -/
def fillN (f : Nat → Nat) (n i : Nat) : List Nat := (List.range n).map fun t => if t < i then f t else 0
theorem length_fillN (f : Nat → Nat) (n i : Nat) : (fillN f n i).length = n := by simp [fillN]
theorem fillN_zero (f : Nat → Nat) (n : Nat) : fillN f n 0 = List.replicate n 0 := by
  apply List.ext_getElem
  · simp [fillN]
  · intro i h1 h2; simp [fillN]
theorem fillN_all (f : Nat → Nat) (n : Nat) : fillN f n n = (List.range n).map f := by
  apply List.ext_getElem
  · simp [fillN]
  · intro i h1 h2
    simp [fillN] at h1 ⊢
    intro h; omega
theorem fillN_succ (f : Nat → Nat) (n k : Nat) : fillN f n (k + 1) = (fillN f n k).set k (f k) := by
  apply List.ext_getElem
  · simp [fillN]
  · intro i h1 h2
    simp only [fillN, List.getElem_map, List.getElem_range, List.getElem_set]
    by_cases e : k = i
    · subst e; simp
    · rw [if_neg e]
      by_cases h : i < k
      · rw [if_pos h, if_pos (by omega)]
      · rw [if_neg h, if_neg (by omega)]

theorem coordR_lt (L : List (List (Int × Int))) (id : Int) (k n i : Nat) : coordR L id k n i < 2 ^ k := by
  unfold coordR
  split
  · exact scl_lt _ _ _ _
  · exact two_pos k

theorem coord_any' (a : Option Addr) (n c : Nat) (fs : List (Int × Int)) (id ord : Int) (xs : List Int) (b1 b2 b3 s : Nat) (w : World) (hR : RowM w (.slice a n c) fs) (en : n = fs.length) (hC : CoM w #[.pointer (some ⟨b1, 0, none⟩), .pointer (some ⟨b2, 0, none⟩), .pointer (some ⟨b3, 0, none⟩)] id ord xs) (hxs : xs.length ≤ 1000000)
    (hS : (numR fs id).2 = true → 0 < xs.length ∧ ∀ w, Calls Tryd.prog 15 #[.int .i64 (numR fs id).1, .int .i64 (mnU xs xs.length), .int .i64 (mxU xs xs.length), .int .i64 ord] w fun e w' => e = .returned (.int .u32 s) ∧ ∃ q, w' = w.drewN q)
    (h0 : (numR fs id).2 = false → s = 0) :
    Calls Tryd.prog 42 #[.agg #[.slice a n c], .pointer (some ⟨b1, 0, none⟩), .pointer (some ⟨b2, 0, none⟩), .pointer (some ⟨b3, 0, none⟩)] w fun e w' => e = .returned (.int .u32 s) ∧ Below w.heap.size w w' := by
  have h := coord_any a n c fs id ord xs #[.pointer (some ⟨b1, 0, none⟩), .pointer (some ⟨b2, 0, none⟩), .pointer (some ⟨b3, 0, none⟩)] s w hR en hC hxs hS h0
  exact h

theorem call42 : Program.callable Tryd.prog 42 = true := by kernel_rfl
theorem call11 : Program.callable Tryd.prog 11 = true := by kernel_rfl
theorem call32 : Program.callable Tryd.prog 32 = true := by kernel_rfl

theorem bel_drew {B : Nat} {w W : World} (h : Below B w W) : Below B w W.drew := below_drewN h 1
theorem bel_tr {w W W' : World} (h : Below w.heap.size w W) (h2 : Below W.heap.size W W') : Below w.heap.size w W' := h.trans (h2.mono h.size)

theorem order_any (a : Option Addr) (L : List (List (Int × Int))) (n c k : Nat) (id0 id1 : Int) (w : World) (hT : Tab w) (en : n = L.length) (hn : n ≤ 1000000) (hM : RowsM w a L) (k1 : 1 ≤ k) (k2 : k ≤ 16)
    (S0 : ScOk L id0 k n) (S1 : ScOk L id1 k n) (hSort : SortOk n) :
    Calls Tryd.prog 18 #[.slice a n c, .agg #[.int .i64 id0, .int .i64 id1], .int .i64 k] w fun e w' =>
      ∃ go co D, e = .returned (.tuple #[.slice (some ⟨go, 0, none⟩) n co, .int .i64 0]) ∧ Row w' go 3 (nc D) ∧ Mix 0 n (List.range n) D ∧ Srt ((List.range n).map (keyR L id0 id1 k n)) D 0 n ∧ Below w.heap.size w w' := by
  obtain ⟨g, eg⟩ : ∃ g, g = w.heap.size := ⟨_, rfl⟩
  obtain ⟨W0, hW0⟩ : ∃ W, W = w.alloc (.cells #[.int .i64 id0, .int .i64 id1] 45) := ⟨_, rfl⟩
  have hb : Below w.heap.size w W0 := by rw [hW0]; exact (Below.refl _ _).alloc (Nat.le_refl _) _
  have R0 : Row W0 g 45 #[.int .i64 id0, .int .i64 id1] := by rw [hW0]; exact Row.new' 45 _ eg
  have RR := right_any k W0
  rw [decide_eq_true (by omega)] at RR
  have HRR := Lib.hid RR
  have CO0 := Lib.hid (fun W (h : Below w.heap.size w W) => coordinate_any a L n c id0 k W en hn (hM.below h (Nat.le_refl _)))
  have CO1 := Lib.hid (fun W (h : Below w.heap.size w W) => coordinate_any a L n c id1 k W en hn (hM.below h (Nat.le_refl _)))
  have q0 := R0.cell 0
  have q1 := R0.cell 1
  simp only [List.getElem?_toArray, List.getElem?_cons_zero, List.getElem?_cons_succ] at q0 q1
  have HW0 := Lib.hid hW0
  have EG := Lib.hid eg
  have HB := Lib.hid hb
  have HR0 := Lib.hid R0
  have HM := Lib.hid hM
  have HS0 := Lib.hid S0
  have HS1 := Lib.hid S1
  have HT := Lib.hid hT
  have HSort := Lib.hid hSort
  have EN := Lib.hid en
  clear RR hW0 eg hb R0 hM S0 S1 hT hSort en
  go_enter Tryd.func18, Tryd.ntmps18
  go_wp2_with (first | ((with_reducible show wpList _ _ _ (Oper.mk _ (Op.box _ _) _ _ _ _ :: _) _ _); (refine wpList_box_row rfl 45 (.tmp 1) rfl _ rfl g EG.out ?_; refine wpList_atE HW0.out ?_)))
  refine HRR.out.mono ?_
  rintro e w1 ⟨rfl, rfl⟩
  go_wp2_with fail
  go_cut [8, 9] from 17 to 26 (fun s8 s9 wx => ∃ lb0 lb1, s8 = .func (.func 42) #[] lb0 ∧ s9 = .func (.func 42) #[] lb1 ∧ CoM wx lb0 id0 k (numsR L id0 n) ∧ CoM wx lb1 id1 k (numsR L id1 n) ∧ Below w.heap.size w wx)
  case first =>
    have hS : w1.drew.cell? ⟨g, 0, none⟩ = some (.int .i64 id0) ∧ w1.drew.cell? ⟨g, 1, none⟩ = some (.int .i64 id1) := ⟨q0, q1⟩
    have BD := Lib.hid (bel_drew HB.out)
    refine wp_region_held (S := fun W' => W'.cell? ⟨g, 0, none⟩ = some (.int .i64 id0) ∧ W'.cell? ⟨g, 1, none⟩ = some (.int .i64 id1)) (by kernel_rfl) ?_
    refine take_move 0 17 (.tmp 0) _ rfl rfl rfl rfl rfl (by kernel_rfl) (by kernel_rfl) (by kernel_rfl) (fun _ _ _ h => h) hS ?_
    simp only [Act.put, List.setIfInBounds_toArray, List.set_cons_zero, List.set_cons_succ]
    refine take_run 1 18 (.pointer (some ⟨g, 0, none⟩)) rfl rfl rfl (fun W hW => by go_simp) (by kernel_rfl) (by kernel_rfl) (by kernel_rfl) (fun _ _ _ h => h) hS ?_
    simp only [Act.put, List.setIfInBounds_toArray, List.set_cons_zero, List.set_cons_succ]
    refine take_run 2 19 (.int .i64 id0) rfl rfl rfl (fun W hW => by obtain ⟨h0, h1⟩ := hW; go_simp) (by kernel_rfl) (by kernel_rfl) (by kernel_rfl) (fun _ _ _ h => h) hS ?_
    simp only [Act.put, List.setIfInBounds_toArray, List.set_cons_zero, List.set_cons_succ]
    refine take_move 3 20 (.tmp 2) _ rfl rfl rfl rfl rfl (by kernel_rfl) (by kernel_rfl) (by kernel_rfl) (fun _ _ _ h => h) hS ?_
    simp only [Act.put, List.setIfInBounds_toArray, List.set_cons_zero, List.set_cons_succ]
    refine take_move 5 22 (.tmp 0) _ rfl rfl rfl rfl rfl (by kernel_rfl) (by kernel_rfl) (by kernel_rfl) (fun _ _ _ h => h) hS ?_
    simp only [Act.put, List.setIfInBounds_toArray, List.set_cons_zero, List.set_cons_succ]
    refine take_run 6 23 (.pointer (some ⟨g, 1, none⟩)) rfl rfl rfl (fun W hW => by go_simp) (by kernel_rfl) (by kernel_rfl) (by kernel_rfl) (fun _ _ _ h => h) hS ?_
    simp only [Act.put, List.setIfInBounds_toArray, List.set_cons_zero, List.set_cons_succ]
    refine take_run 7 24 (.int .i64 id1) rfl rfl rfl (fun W hW => by obtain ⟨h0, h1⟩ := hW; go_simp) (by kernel_rfl) (by kernel_rfl) (by kernel_rfl) (fun _ _ _ h => h) hS ?_
    simp only [Act.put, List.setIfInBounds_toArray, List.set_cons_zero, List.set_cons_succ]
    refine take_move 8 25 (.tmp 2) _ rfl rfl rfl rfl rfl (by kernel_rfl) (by kernel_rfl) (by kernel_rfl) (fun _ _ _ h => h) hS ?_
    simp only [Act.put, List.setIfInBounds_toArray, List.set_cons_zero, List.set_cons_succ]
    refine wpAnyH_one (i := 4) (by kernel_rfl) rfl rfl (wp_call_ret rfl call32 (CO0.out _ BD.out) (by simp [Act.eval]) (d := 21) rfl ?_)
    rintro e wA ⟨lbA, rfl, hCA, hbA⟩
    have hA := bel_tr BD.out hbA
    have hSA : wA.cell? ⟨g, 0, none⟩ = some (.int .i64 id0) ∧ wA.cell? ⟨g, 1, none⟩ = some (.int .i64 id1) := ⟨(hbA.cell (p := ⟨g, 0, none⟩) HR0.out.lt).trans q0, (hbA.cell (p := ⟨g, 1, none⟩) HR0.out.lt).trans q1⟩
    refine ⟨_, rfl, hSA, ?_⟩
    simp only [Act.put, List.setIfInBounds_toArray, List.set_cons_zero, List.set_cons_succ]
    refine wpAnyH_one (i := 9) (by kernel_rfl) rfl rfl (wp_call_ret rfl call32 (CO1.out wA hA) (by simp [Act.eval]) (d := 26) rfl ?_)
    rintro e wB ⟨lbB, rfl, hCB, hbB⟩
    have hB := bel_tr hA hbB
    have hSB : wB.cell? ⟨g, 0, none⟩ = some (.int .i64 id0) ∧ wB.cell? ⟨g, 1, none⟩ = some (.int .i64 id1) := ⟨(hbB.cell (p := ⟨g, 0, none⟩) (Nat.lt_of_lt_of_le HR0.out.lt hbA.size)).trans hSA.1, (hbB.cell (p := ⟨g, 1, none⟩) (Nat.lt_of_lt_of_le HR0.out.lt hbA.size)).trans hSA.2⟩
    have hCA' := hCA.below hbB (Nat.le_refl _)
    refine ⟨_, rfl, hSB, ?_⟩
    simp only [Act.put, List.setIfInBounds_toArray, List.set_cons_zero, List.set_cons_succ]
    refine take_run 10 8 (.func (.func 42) #[] lbA) rfl rfl rfl (fun W _ => rfl) (by kernel_rfl) (by kernel_rfl) (by kernel_rfl) (fun _ _ _ h => h) hSB ?_
    simp only [Act.put, List.setIfInBounds_toArray, List.set_cons_zero, List.set_cons_succ]
    refine take_run 11 9 (.func (.func 42) #[] lbB) rfl rfl rfl (fun W _ => rfl) (by kernel_rfl) (by kernel_rfl) (by kernel_rfl) (fun _ _ _ h => h) hSB ?_
    simp only [Act.put, List.setIfInBounds_toArray, List.set_cons_zero, List.set_cons_succ]
    refine wpAnyH_done (by kernel_rfl) ?_ _
    go_wp2_with fail
    go_meet
    exact ⟨lbA, lbB, rfl, rfl, hCA', hCB, hB⟩
  case rest =>
    obtain ⟨lb0, lb1, rfl, rfl, hC0, hC1, hB1⟩ := hcut
    have HC0 := Lib.hid hC0
    have HC1 := Lib.hid hC1
    have HB1 := Lib.hid hB1
    have M50 := make50 n hn
    have M46 := make46 n hn
    clear hC0 hC1 hB1 q0 q1
    go_wp2_with fail
    go_cut [10, 11] from 27 to 32 (fun s10 s11 wx => ∃ gb gk go, s10 = .pointer (some ⟨gb, 0, none⟩) ∧ s11 = .slice (some ⟨go, 0, none⟩) n n ∧ Row wx gb 50 #[.slice (some ⟨gk, 0, none⟩) n n] ∧ Row wx gk 24 (uc (List.replicate n 0)) ∧ Row wx go 3 (nc (List.replicate n 0)) ∧ wc.heap.size ≤ gb ∧ wc.heap.size ≤ gk ∧ wc.heap.size ≤ go ∧ gb ≠ gk ∧ gb ≠ go ∧ gk ≠ go ∧ Below wc.heap.size wc wx)
    case first =>
      go_region
      all_goals
        go_wp2_with fail
        go_meet
        first | exact ⟨_, _, _, rfl, rfl, (three_blocks _ _ _ _ _ _ _).2.2.1, (three_blocks _ _ _ _ _ _ _).1, (three_blocks _ _ _ _ _ _ _).2.1, by omega, by omega, by omega, by omega, by omega, by omega, (three_blocks _ _ _ _ _ _ _).2.2.2⟩ | exact ⟨_, _, _, rfl, rfl, (three_blocks _ _ _ _ _ _ _).2.1, (three_blocks _ _ _ _ _ _ _).1, (three_blocks _ _ _ _ _ _ _).2.2.1, by omega, by omega, by omega, by omega, by omega, by omega, (three_blocks _ _ _ _ _ _ _).2.2.2⟩ | exact ⟨_, _, _, rfl, rfl, (three_blocks _ _ _ _ _ _ _).2.2.1, (three_blocks _ _ _ _ _ _ _).2.1, (three_blocks _ _ _ _ _ _ _).1, by omega, by omega, by omega, by omega, by omega, by omega, (three_blocks _ _ _ _ _ _ _).2.2.2⟩ | exact ⟨_, _, _, rfl, rfl, (three_blocks _ _ _ _ _ _ _).2.1, (three_blocks _ _ _ _ _ _ _).2.2.1, (three_blocks _ _ _ _ _ _ _).1, by omega, by omega, by omega, by omega, by omega, by omega, (three_blocks _ _ _ _ _ _ _).2.2.2⟩ | exact ⟨_, _, _, rfl, rfl, (three_blocks _ _ _ _ _ _ _).1, (three_blocks _ _ _ _ _ _ _).2.1, (three_blocks _ _ _ _ _ _ _).2.2.1, by omega, by omega, by omega, by omega, by omega, by omega, (three_blocks _ _ _ _ _ _ _).2.2.2⟩ | exact ⟨_, _, _, rfl, rfl, (three_blocks _ _ _ _ _ _ _).1, (three_blocks _ _ _ _ _ _ _).2.2.1, (three_blocks _ _ _ _ _ _ _).2.1, by omega, by omega, by omega, by omega, by omega, by omega, (three_blocks _ _ _ _ _ _ _).2.2.2⟩
    case rest =>
      obtain ⟨gb, gk, go, rfl, rfl, hRb, hRk, hRo, hgb, hgk, hgo, nbk, nbo, nko, hBc⟩ := hcut
      obtain ⟨wx, hwx⟩ : ∃ x, x = wc := ⟨_, rfl⟩
      subst hwx
      obtain ⟨b01, b02, b03, _, _, _, el0, _⟩ := id HC0.out
      obtain ⟨b11, b12, b13, _, _, _, el1, _⟩ := id HC1.out
      subst el0 el1
      have HRb := Lib.hid hRb
      have HRk := Lib.hid hRk
      have HRo := Lib.hid hRo
      have HBc := Lib.hid hBc
      have HSR := Lib.hid (⟨hgb, hgk, hgo⟩ : _ ∧ _ ∧ _)
      have HNE := Lib.hid (⟨nbk, nbo, nko⟩ : _ ∧ _ ∧ _)
      clear hRb hRk hRo hBc hgb hgk hgo nbk nbo nko M50 M46 HRR
      go_wp2_with fail
      go_loopw [12, 13, 35] (fun _ _ iv wr => ∃ i : Nat, i ≤ n ∧ iv = .int .i64 i ∧ Row wr gb 50 #[.slice (some ⟨gk, 0, none⟩) n n] ∧ Row wr gk 24 (uc (fillN (keyR L id0 id1 k n) n i)) ∧ Row wr go 3 (nc (fillN (fun t => t) n i)) ∧ Below wc.heap.size wc wr) (fun _ _ iv _ => n - (intOf iv).toNat)
      case atStart => exact ⟨0, by omega, rfl, HRb.out, by rw [fillN_zero]; exact HRk.out, by rw [fillN_zero]; exact HRo.out, HBc.out⟩
      case round =>
        obtain ⟨i, hi, rfl, hRb, hRk, hRo, hBr⟩ := hrel
        by_cases hin : i < n
        · have ii : (i : Int) < (n : Int) := by omega
          have hBw := bel_tr HB1.out hBr
          obtain ⟨ga, oa, ea, hga, hc⟩ : ∃ g o, a = some ⟨g, o, none⟩ ∧ g < w.heap.size ∧ ∀ i, i < L.length → ∃ v, w.cell? ⟨g, o + i, none⟩ = some v ∧ RowM w v (L.getD i []) := by
            rcases HM.out with ⟨_, h⟩ | h
            · have := EN.out; omega
            · exact h
          subst ea
          obtain ⟨rv, hrv, hrm⟩ := hc i (by rw [← EN.out]; exact hin)
          have hr : wr.rangeAt ga (oa + i) [rv] := fun j x hx => by
            match j, hx with
            | 0, hx => simp at hx; subst hx; exact (hBw.cell (p := ⟨ga, oa + i, none⟩) hga).trans hrv
            | (j + 1), hx => simp at hx
          have hrm2 := hrm
          obtain ⟨av, cv, evv, hlv, hMv⟩ := hrm2
          obtain ⟨fs, hfs⟩ : ∃ fs, fs = L.getD i [] := ⟨_, rfl⟩
          obtain ⟨m, hm⟩ : ∃ m, m = fs.length := ⟨_, rfl⟩
          rw [← hfs, ← hm] at evv
          subst evv
          obtain ⟨gn, hgn⟩ : ∃ gn, gn = wr.heap.size := ⟨_, rfl⟩
          obtain ⟨W2, hW2⟩ : ∃ W, W = wr.alloc (.cells #[.slice av m cv] 76) := ⟨_, rfl⟩
          have b2 : Below wr.heap.size wr W2 := by rw [hW2]; exact (Below.refl _ _).alloc (Nat.le_refl _) _
          have r2 : Row W2 gn 76 #[.slice av m cv] := by rw [hW2]; exact Row.new' 76 _ hgn
          have hBw2 := bel_tr hBw b2
          have hBc2 := bel_tr hBr b2
          obtain ⟨cx, hcx⟩ : ∃ x, x = coordR L id0 k n i := ⟨_, rfl⟩
          obtain ⟨cy, hcy⟩ : ∃ x, x = coordR L id1 k n i := ⟨_, rfl⟩
          have lx : cx < 2 ^ k := by rw [hcx]; exact coordR_lt _ _ _ _ _
          have ly : cy < 2 ^ k := by rw [hcy]; exact coordR_lt _ _ _ _ _
          have key : keyR L id0 id1 k n i = idx k cx cy := by rw [keyR, ← hcx, ← hcy]
          obtain ⟨kv, hkv⟩ : ∃ x, x = idx k cx cy := ⟨_, rfl⟩
          have IR : indexR k cx cy = (kv, 0) := by rw [indexR, if_neg (by rw [Int.toNat_natCast]; omega), Int.toNat_natCast, ← hkv]
          have C0 : ∀ W, Below W2.heap.size W2 W → Calls Tryd.prog 42 #[.agg #[.slice av m cv], .pointer (some ⟨b01, 0, none⟩), .pointer (some ⟨b02, 0, none⟩), .pointer (some ⟨b03, 0, none⟩)] W fun e w'' => e = .returned (.int .u32 cx) ∧ Below W.heap.size W w'' := fun W bb => by
            have h1 := hrm.below (bel_tr hBw2 bb) (Nat.le_refl _)
            rw [← hfs] at h1
            refine coord_any' av m cv fs id0 k (numsR L id0 n) b01 b02 b03 cx _ h1 hm (HC0.out.below (bel_tr hBc2 bb) (Nat.le_refl _)) (Nat.le_trans (length_nums _ _ _) hn) (fun ho => ?_) (fun ho => ?_)
            · have := HS0.out i hin (by rw [← hfs]; exact ho)
              rw [← hfs, ← hcx] at this
              exact this
            · rw [hcx, coordR, ← hfs, ho]; rfl
          have C1 : ∀ W, Below W2.heap.size W2 W → Calls Tryd.prog 42 #[.agg #[.slice av m cv], .pointer (some ⟨b11, 0, none⟩), .pointer (some ⟨b12, 0, none⟩), .pointer (some ⟨b13, 0, none⟩)] W fun e w'' => e = .returned (.int .u32 cy) ∧ Below W.heap.size W w'' := fun W bb => by
            have h1 := hrm.below (bel_tr hBw2 bb) (Nat.le_refl _)
            rw [← hfs] at h1
            refine coord_any' av m cv fs id1 k (numsR L id1 n) b11 b12 b13 cy _ h1 hm (HC1.out.below (bel_tr hBc2 bb) (Nat.le_refl _)) (Nat.le_trans (length_nums _ _ _) hn) (fun ho => ?_) (fun ho => ?_)
            · have := HS1.out i hin (by rw [← hfs]; exact ho)
              rw [← hfs, ← hcy] at this
              exact this
            · rw [hcy, coordR, ← hfs, ho]; rfl
          have C2 : ∀ W, Below W2.heap.size W2 W → Calls Tryd.prog 11 #[.int .i64 k, .int .u32 cx, .int .u32 cy] W fun e w'' => e = .returned (.tuple #[.int .u64 kv, .int .i64 0]) ∧ Below W.heap.size W w'' := fun W bb => by
            have := index_any k cx cy _ (HT.out.below (bel_tr hBw2 bb) (Nat.le_refl _))
            rw [IR] at this
            exact this
          have hRb2 : Row W2 gb 50 #[.slice (some ⟨gk, 0, none⟩) n n] := by rw [hW2]; exact hRb.alloc _
          have hRk2 : Row W2 gk 24 (uc (fillN (keyR L id0 id1 k n) n i)) := by rw [hW2]; exact hRk.alloc _
          have hRo2 : Row W2 go 3 (nc (fillN (fun t => t) n i)) := by rw [hW2]; exact hRo.alloc _
          have g0 : W2.cell? ⟨gb, 0, none⟩ = some (.slice (some ⟨gk, 0, none⟩) n n) := hRb2.cell 0
          have g1 : W2.cell? ⟨gn, 0, none⟩ = some (.slice av m cv) := r2.cell 0
          have G0 := Lib.hid g0
          have G1 := Lib.hid g1
          have HRb2 := Lib.hid hRb2
          have HRk2 := Lib.hid hRk2
          have HRo2 := Lib.hid hRo2
          have HW2 := Lib.hid hW2
          have HRk' := Lib.hid hRk
          have HGN := Lib.hid hgn
          have HR2 := Lib.hid r2
          have HRR := Lib.hid hr
          have HIN := Lib.hid hin
          have HBc2 := Lib.hid hBc2
          have HC0' := Lib.hid C0
          have HC1' := Lib.hid C1
          have HC2' := Lib.hid C2
          have HKV := Lib.hid (show keyR L id0 id1 k n i = kv by rw [key, ← hkv])
          clear hRb hRk hRo hRb2 hRk2 hRo2 hW2 hgn hr hin hBc2 hBw2 hBw hBr b2 r2 hrm hrv hc hlv hMv hfs hm hcx hcy lx ly key hkv IR C0 C1 C2 g0 g1 hi
          go_wp2_with (first | ((with_reducible show wpList _ _ _ (Oper.mk _ (Op.load _ _) _ _ _ _ :: _) _ _); refine wpList_load_mid rfl 76 (.tmp 38) rfl ga (oa + i) rfl [.slice av m cv] _ HRR.out Tryd.underlying76 rfl Tryd.n76 ?_))
          rw [← HW2.out, ← HGN.out]
          have hS : W2.drew.cell? ⟨gb, 0, none⟩ = some (.slice (some ⟨gk, 0, none⟩) n n) ∧ W2.drew.cell? ⟨gn, 0, none⟩ = some (.slice av m cv) := ⟨G0.out, G1.out⟩
          have BD := bel_drew (Below.refl W2.heap.size W2)
          have lb := block_lt_of_cell (a := ⟨gb, 0, none⟩) G0.out
          have ln := block_lt_of_cell (a := ⟨gn, 0, none⟩) G1.out
          refine wp_region_held (S := fun W' => W'.cell? ⟨gb, 0, none⟩ = some (.slice (some ⟨gk, 0, none⟩) n n) ∧ W'.cell? ⟨gn, 0, none⟩ = some (.slice av m cv)) (by kernel_rfl) ?_
          refine take_run 0 41 (.slice (some ⟨gk, 0, none⟩) n n) rfl rfl rfl (fun W hW => by obtain ⟨h0, h1⟩ := hW; go_simp) (by kernel_rfl) (by kernel_rfl) (by kernel_rfl) (fun _ _ _ h => h) hS ?_
          simp only [Act.put, List.setIfInBounds_toArray, List.set_cons_zero, List.set_cons_succ]
          refine take_move 1 42 (.tmp 12) _ rfl rfl rfl rfl rfl (by kernel_rfl) (by kernel_rfl) (by kernel_rfl) (fun _ _ _ h => h) hS ?_
          simp only [Act.put, List.setIfInBounds_toArray, List.set_cons_zero, List.set_cons_succ]
          refine take_move 2 43 (.tmp 2) _ rfl rfl rfl rfl rfl (by kernel_rfl) (by kernel_rfl) (by kernel_rfl) (fun _ _ _ h => h) hS ?_
          simp only [Act.put, List.setIfInBounds_toArray, List.set_cons_zero, List.set_cons_succ]
          refine take_move 3 44 (.tmp 8) _ rfl rfl rfl rfl rfl (by kernel_rfl) (by kernel_rfl) (by kernel_rfl) (fun _ _ _ h => h) hS ?_
          simp only [Act.put, List.setIfInBounds_toArray, List.set_cons_zero, List.set_cons_succ]
          refine take_run 4 45 (.agg #[.slice av m cv]) rfl rfl rfl (fun W hW => by obtain ⟨h0, h1⟩ := hW; go_simp) (by kernel_rfl) (by kernel_rfl) (by kernel_rfl) (fun _ _ _ h => h) hS ?_
          simp only [Act.put, List.setIfInBounds_toArray, List.set_cons_zero, List.set_cons_succ]
          refine take_move 6 47 (.tmp 9) _ rfl rfl rfl rfl rfl (by kernel_rfl) (by kernel_rfl) (by kernel_rfl) (fun _ _ _ h => h) hS ?_
          simp only [Act.put, List.setIfInBounds_toArray, List.set_cons_zero, List.set_cons_succ]
          refine take_run 7 48 (.agg #[.slice av m cv]) rfl rfl rfl (fun W hW => by obtain ⟨h0, h1⟩ := hW; go_simp) (by kernel_rfl) (by kernel_rfl) (by kernel_rfl) (fun _ _ _ h => h) hS ?_
          simp only [Act.put, List.setIfInBounds_toArray, List.set_cons_zero, List.set_cons_succ]
          refine wpAnyH_one (i := 5) (by kernel_rfl) rfl rfl (wp_call_val (x := .tmp 44) rfl rfl call42 (HC0'.out _ BD) (by simp [Act.eval]) (d := 46) rfl ?_)
          rintro e wA ⟨rfl, bwA⟩
          have BwA := bel_tr BD bwA
          have hSwA : wA.cell? ⟨gb, 0, none⟩ = some (.slice (some ⟨gk, 0, none⟩) n n) ∧ wA.cell? ⟨gn, 0, none⟩ = some (.slice av m cv) := ⟨(BwA.cell (p := ⟨gb, 0, none⟩) lb).trans G0.out, (BwA.cell (p := ⟨gn, 0, none⟩) ln).trans G1.out⟩
          refine ⟨_, rfl, hSwA, ?_⟩
          simp only [Act.put, List.setIfInBounds_toArray, List.set_cons_zero, List.set_cons_succ]
          refine wpAnyH_one (i := 8) (by kernel_rfl) rfl rfl (wp_call_val (x := .tmp 47) rfl rfl call42 (HC1'.out _ BwA) (by simp [Act.eval]) (d := 49) rfl ?_)
          rintro e wB ⟨rfl, bwB⟩
          have BwB := bel_tr BwA bwB
          have hSwB : wB.cell? ⟨gb, 0, none⟩ = some (.slice (some ⟨gk, 0, none⟩) n n) ∧ wB.cell? ⟨gn, 0, none⟩ = some (.slice av m cv) := ⟨(BwB.cell (p := ⟨gb, 0, none⟩) lb).trans G0.out, (BwB.cell (p := ⟨gn, 0, none⟩) ln).trans G1.out⟩
          refine ⟨_, rfl, hSwB, ?_⟩
          simp only [Act.put, List.setIfInBounds_toArray, List.set_cons_zero, List.set_cons_succ]
          refine wpAnyH_one (i := 9) (by kernel_rfl) rfl rfl (wp_call_ret rfl call11 (HC2'.out _ BwB) (by simp [Act.eval]) (d := 50) rfl ?_)
          rintro e wC ⟨rfl, bwC⟩
          have BwC := bel_tr BwB bwC
          have hSwC : wC.cell? ⟨gb, 0, none⟩ = some (.slice (some ⟨gk, 0, none⟩) n n) ∧ wC.cell? ⟨gn, 0, none⟩ = some (.slice av m cv) := ⟨(BwC.cell (p := ⟨gb, 0, none⟩) lb).trans G0.out, (BwC.cell (p := ⟨gn, 0, none⟩) ln).trans G1.out⟩
          refine ⟨_, rfl, hSwC, ?_⟩
          simp only [Act.put, List.setIfInBounds_toArray, List.set_cons_zero, List.set_cons_succ]
          refine take_move 10 40 (.tmp 50) _ rfl rfl rfl rfl rfl (by kernel_rfl) (by kernel_rfl) (by kernel_rfl) (fun _ _ _ h => h) hSwC ?_
          simp only [Act.put, List.setIfInBounds_toArray, List.set_cons_zero, List.set_cons_succ]
          refine take_run 11 51 (.int .u64 kv) rfl rfl rfl (fun W hW => rfl) (by kernel_rfl) (by kernel_rfl) (by kernel_rfl) (fun _ _ _ h => h) hSwC ?_
          simp only [Act.put, List.setIfInBounds_toArray, List.set_cons_zero, List.set_cons_succ]
          refine take_run 12 52 (.int .i64 0) rfl rfl rfl (fun W hW => rfl) (by kernel_rfl) (by kernel_rfl) (by kernel_rfl) (fun _ _ _ h => h) hSwC ?_
          simp only [Act.put, List.setIfInBounds_toArray, List.set_cons_zero, List.set_cons_succ]
          refine take_run 13 53 (.pointer (some ⟨gk, i, none⟩)) rfl rfl rfl (fun W hW => by go_simp) (by kernel_rfl) (by kernel_rfl) (by kernel_rfl) (fun _ _ _ h => h) hSwC ?_
          simp only [Act.put, List.setIfInBounds_toArray, List.set_cons_zero, List.set_cons_succ]
          have rk := HRk2.out.below BwC HRk2.out.lt
          have ck := (rk.cell i).trans (get_uc _ i (by rw [length_fillN]; exact HIN.out))
          have fk := rk.frozen i
          obtain ⟨W4, hW4⟩ : ∃ W, W = wC.setCell ⟨gk, i, none⟩ (.int .u64 (kv : Int)) := ⟨_, rfl⟩
          have n1 : gb ≠ gk := HNE.out.1
          have n2 : gn ≠ gk := by have := HSR.out; have := HRk2.out.lt; rw [HGN.out]; have h := HRk'.out.lt; omega
          have rb4 : Row W4 gb 50 #[.slice (some ⟨gk, 0, none⟩) n n] := by rw [hW4]; exact (HRb2.out.below BwC lb).setOther n1 _
          have rn4 : Row W4 gn 76 #[.slice av m cv] := by rw [hW4]; exact (HR2.out.below BwC ln).setOther n2 _
          have rk4 : Row W4 gk 24 (uc (fillN (keyR L id0 id1 k n) n (i + 1))) := by rw [hW4, fillN_succ, HKV.out, ← set_uc]; exact rk.set i _
          have ro4 : Row W4 go 3 (nc (fillN (fun t => t) n i)) := by rw [hW4]; exact (HRo2.out.below BwC HRo2.out.lt).setOther (Ne.symm HNE.out.2.2) _
          have BC4 : Below wc.heap.size wc W4 := by rw [hW4]; exact (bel_tr HBc2.out BwC).setCell (p := ⟨gk, i, none⟩) HSR.out.2.1 _
          have co := (ro4.cell i).trans (get_nc _ i (by rw [length_fillN]; exact HIN.out))
          have fo := ro4.frozen i
          have HW4 := Lib.hid hW4
          clear hW4
          refine wpAnyH_one (i := 14) (by kernel_rfl) rfl rfl ?_
          unfold Oper.wp
          go_simp
          rw [← HW4.out]
          refine ⟨by kernel_rfl, ?_⟩
          have RB4 := Lib.hid rb4
          have RK4 := Lib.hid rk4
          have RO4 := Lib.hid ro4
          have BC4' := Lib.hid BC4
          clear rb4 rk4 ro4 rn4 BC4 rk ck fk hSwA hSwB hSwC hS BwA BwB BwC bwA bwB bwC BD lb ln n1 n2
          go_wp2_with fail
          go_roundw
          case rel => exact ⟨i + 1, HIN.out, by go_num, RB4.out.setOther HNE.out.2.1 _, RK4.out.setOther HNE.out.2.2 _, by rw [fillN_succ, ← set_nc]; exact RO4.out.set i _, BC4'.out.setCell (p := ⟨go, i, none⟩) HSR.out.2.2 _⟩
          case measure => have := HIN.out; simp [intOf] <;> omega
        · obtain rfl : i = n := by omega
          have ii : ¬ (i : Int) < (i : Int) := by omega
          have KL : Hid (KeysM wr gb gk i i ((List.range i).map (keyR L id0 id1 k i))) := Lib.hid ⟨hRb.cell 0, by simp, fun j hj => by
            rw [fillN_all] at hRk
            exact (hRk.cell j).trans (get_uc _ j (by simpa using hj))⟩
          have hRo' : Row wr go 3 (nc (List.range i)) := by rw [fillN_all] at hRo; simpa using hRo
          have SO := HSort.out go 3 i gb gk i i (List.range i) ((List.range i).map (keyR L id0 id1 k i)) wr hRo' KL.out (by simp) hn HNE.out.2.1 HNE.out.2.2 (fun j hj => by simp at hj; simp [at', List.getD, hj]) (fun p q h1 h2 => by simp [at', List.getD, h2, Nat.lt_trans h1 h2]; exact h1)
          have HSO := Lib.hid SO
          have HBr := Lib.hid hBr
          clear SO hBr hRb hRk hRo hRo' hi hin
          go_wp2_with fail
          refine HSO.out.mono ?_
          rintro e w2 ⟨rfl, D', h1, h2, h3, h4⟩
          have H1 := Lib.hid h1
          have H2 := Lib.hid h2
          have H3 := Lib.hid h3
          have H4 := Lib.hid h4
          clear h1 h2 h3 h4
          go_wp2_with fail
          go_ret2
          exact ⟨go, i, D', rfl, H1.out, H2.out, H3.out, Below.grown (bel_tr HB1.out HBr.out) H4.out (bel_tr HB1.out HBr.out).size (fun j hj => by injection hj with hj; have := HSR.out; have := HB1.out.size; omega)⟩
end Go.Proofs.YtnpkbjekodjcjaaDoor
