/- The contract of chacha.initial: the initial state. -/
import Derived.Test.YtnooklfhpjfbmaaDoorA
set_option linter.all false
namespace Go.Proofs.YtnooklfhpjfbmaaDoor
open Go.RowKit Go.Fen
set_option linter.unusedVariables false
set_option maxHeartbeats 400000

theorem Tryd.z33 : (Tryd.prog.info? 33).bind (·.zero) = some (.agg (bcells (List.replicate 64 0#8))) := by kernel_rfl
theorem Tryd.z46 : (Tryd.prog.info? 46).bind (·.zero) = some (.agg (wcells (List.replicate 16 0#32))) := by kernel_rfl
theorem Tryd.z44 : (Tryd.prog.info? 44).bind (·.zero) = some (.agg (icells (List.replicate 4 0))) := by kernel_rfl
theorem Tryd.n25 : (Tryd.prog.info? 25).map (·.size) = some 32 := by kernel_rfl
theorem Tryd.n26 : (Tryd.prog.info? 26).map (·.size) = some 12 := by kernel_rfl
theorem Tryd.n33 : (Tryd.prog.info? 33).map (·.size) = some 64 := by kernel_rfl
theorem Tryd.n46 : (Tryd.prog.info? 46).map (·.size) = some 16 := by kernel_rfl
theorem Tryd.n5 : (Tryd.prog.info? 5).map (·.size) = some 1 := by kernel_rfl
theorem Tryd.n44 : (Tryd.prog.info? 44).map (·.size) = some 4 := by kernel_rfl

/-- word i of a row of bytes -/
def kw (K : List (BitVec 8)) (i : Nat) : BitVec 32 := wordOf (K.getD (4 * i) 0#8) (K.getD (4 * i + 1) 0#8) (K.getD (4 * i + 2) 0#8) (K.getD (4 * i + 3) 0#8)
/-- k words of K are laid from place p on -/
def fillW (K : List (BitVec 8)) (p : Nat) : Nat → List (BitVec 32) → List (BitVec 32)
  | 0, l => l
  | k + 1, l => (fillW K p k l).set (p + k) (kw K k)
theorem length_fillW (K : List (BitVec 8)) (p k : Nat) (l : List (BitVec 32)) : (fillW K p k l).length = l.length := by
  induction k with
  | zero => rfl
  | succ k ih => simp [fillW, ih]
def consts : List (BitVec 32) := [0x61707865#32, 0x3320646e#32, 0x79622d32#32, 0x6b206574#32, 0#32, 0#32, 0#32, 0#32, 0#32, 0#32, 0#32, 0#32, 0#32, 0#32, 0#32, 0#32]
/-- the initial state -/
def initL (K N : List (BitVec 8)) (n : BitVec 32) : List (BitVec 32) := fillW N 13 3 ((fillW K 4 8 consts).set 12 n)
theorem length_initL (K N : List (BitVec 8)) (n : BitVec 32) : (initL K N n).length = 16 := by
  simp [initL, length_fillW, consts]

set_option maxHeartbeats 1000000 in
theorem initial_any (K N : List (BitVec 8)) (hK : K.length = 32) (hN : N.length = 12) (n : BitVec 32) (w : World) :
    Calls Tryd.prog 16 #[.agg (bcells K), .agg (bcells N), .int .u32 n.toNat] w fun e w' => e = .returned (.agg (wcells (initL K N n))) ∧ Below w.heap.size w w' := by
  have nK : (Tryd.prog.info? 25).map (·.size) = some (bcells K).size := by rw [size_bcells K, hK]; exact Tryd.n25
  have nN : (Tryd.prog.info? 26).map (·.size) = some (bcells N).size := by rw [size_bcells N, hN]; exact Tryd.n26
  go_enter Tryd.func16, Tryd.ntmps16
  go_wp2_with (first | ((with_reducible show wpList _ _ _ _ _ _); first | (refine wpList_box_row rfl 25 (.tmp 0) rfl (bcells K) rfl w.heap.size rfl ?_) | (refine wpList_box_row rfl 26 (.tmp 1) rfl (bcells N) rfl (w.heap.size + 1) (by simp) ?_) | (refine wpList_new_row rfl rfl 46 7 (.tmp 10) rfl rfl rfl rfl (w.heap.size + 1 + 1 + 1) (by simp) (wcells consts) rfl rfl _ Tryd.z46 Tryd.n46 rfl (one_wcells _) ?_) | (refine wpList_alloc_row rfl 46 rfl _ Tryd.z46 (w.heap.size + 1 + 1) (by simp) ?_)))
  go_loopw [11] (fun i wr => ∃ k : Nat, k ≤ 8 ∧ i = .int .i64 k ∧ Row wr (w.heap.size) 25 (bcells K) ∧ Row wr (w.heap.size + 1) 26 (bcells N) ∧ Row wr (w.heap.size + 1 + 1) 46 (wcells (List.replicate 16 0#32)) ∧
      Row wr (w.heap.size + 1 + 1 + 1) 46 (wcells (fillW K 4 k consts)) ∧ Below w.heap.size w wr) (fun i _ => 8 - (intOf i).toNat)
  case atStart =>
    refine ⟨0, Nat.zero_le _, rfl, Row.alloc (Row.alloc (Row.alloc (Row.new' _ _ rfl) _) _) _, Row.alloc (Row.alloc (Row.new' _ _ (by simp)) _) _, Row.alloc (Row.new' _ _ (by simp)) _, Row.new' _ _ (by simp), ?_⟩
    exact ((((Below.refl _ _).alloc (Nat.le_refl _) _).alloc (by simp) _).alloc (by simp; omega) _).alloc (by simp; omega) _
  case round =>
    obtain ⟨k, hk, rfl, rK, rN, rO, rS, hb⟩ := hrel
    by_cases hlt : k < 8
    · have c0 := (rK.cell (4 * k)).trans (get_bcells K (4 * k) (by omega))
      have c1 := (rK.cell (4 * k + 1)).trans (get_bcells K (4 * k + 1) (by omega))
      have c2 := (rK.cell (4 * k + 2)).trans (get_bcells K (4 * k + 2) (by omega))
      have c3 := (rK.cell (4 * k + 3)).trans (get_bcells K (4 * k + 3) (by omega))
      have cS := (rS.cell (4 + k)).trans (get_wcells _ (4 + k) (by rw [length_fillW]; simp [consts]; omega))
      have fS := rS.frozen (4 + k)
      have hw : Hid (∀ l c, 4 ≤ l → Calls Tryd.prog 20 #[.slice (some ⟨w.heap.size, 4 * k, none⟩) l c] wr fun e w' => e = .returned (.int .u32 (kw K k).toNat) ∧ ∃ n, w' = wr.drewN n) :=
        Lib.hid fun l c hl => word_any _ _ l c _ _ _ _ wr hl c0 c1 c2 c3
      clear c0 c1 c2 c3
      go_wp2_with (first | ((with_reducible show wpList _ _ _ _ _ _); first | (refine wpList_slice_lo rfl 25 (.tmp 3) (.tmp 17) rfl 32 5 Tryd.underlying25 Tryd.n5 w.heap.size (4 * k) rfl rfl (by omega) (by omega) ?_)) | (go_at_call 20; refine (hw.out _ _ (by omega)).mono ?_; rintro e w' ⟨rfl, nq, rfl⟩))
      go_roundw
      case rel =>
        refine ⟨k + 1, by omega, by go_num, ?_, ?_, ?_, ?_, ?_⟩
        · exact Row.setOther (rK.drewN nq) (by show w.heap.size ≠ w.heap.size + 1 + 1 + 1; omega) _
        · exact Row.setOther (rN.drewN nq) (by show w.heap.size + 1 ≠ w.heap.size + 1 + 1 + 1; omega) _
        · exact Row.setOther (rO.drewN nq) (by show w.heap.size + 1 + 1 ≠ w.heap.size + 1 + 1 + 1; omega) _
        · exact set_wcells (fillW K 4 k consts) (4 + k) (kw K k) ▸ (rS.drewN nq).set (4 + k) _
        · exact (below_drewN hb nq).setCell (by simp; omega) _
      case measure => simp [intOf]; omega
    · have H8 : Hid (k = 8) := Lib.hid (by omega)
      have hge : 8 ≤ k := by omega
      generalize hk1 : k = k1 at *
      clear hk1
      have lS := length_fillW K 4 k1 consts
      have c12 := (rS.cell 12).trans (get_wcells _ 12 (by rw [lS]; simp [consts]))
      have f12 := rS.frozen 12
      clear hlt
      generalize hS : (fillW K 4 k1 consts).getD 12 0#32 = x12 at c12
      clear hS lS
      go_wp2
      go_loopw [24] (fun i wr => ∃ k : Nat, k ≤ 3 ∧ i = .int .i64 k ∧ Row wr (w.heap.size + 1) 26 (bcells N) ∧ Row wr (w.heap.size + 1 + 1) 46 (wcells (List.replicate 16 0#32)) ∧
          Row wr (w.heap.size + 1 + 1 + 1) 46 (wcells (fillW N 13 k ((fillW K 4 k1 consts).set 12 n))) ∧ Below w.heap.size w wr) (fun i _ => 3 - (intOf i).toNat)
      case atStart =>
        refine ⟨0, Nat.zero_le _, rfl, Row.setOther rN (by show w.heap.size + 1 ≠ w.heap.size + 1 + 1 + 1; omega) _, Row.setOther rO (by show w.heap.size + 1 + 1 ≠ w.heap.size + 1 + 1 + 1; omega) _, ?_, ?_⟩
        · exact set_wcells (fillW K 4 k1 consts) 12 n ▸ rS.set 12 _
        · exact hb.setCell (by simp; omega) _
      case round =>
        clear c12 f12 rK rN rO rS hb
        obtain ⟨k, hk, rfl, rN, rO, rS, hb⟩ := hrel
        by_cases hlt : k < 3
        · have c0 := (rN.cell (4 * k)).trans (get_bcells N (4 * k) (by omega))
          have c1 := (rN.cell (4 * k + 1)).trans (get_bcells N (4 * k + 1) (by omega))
          have c2 := (rN.cell (4 * k + 2)).trans (get_bcells N (4 * k + 2) (by omega))
          have c3 := (rN.cell (4 * k + 3)).trans (get_bcells N (4 * k + 3) (by omega))
          have cS := (rS.cell (13 + k)).trans (get_wcells _ (13 + k) (by rw [length_fillW, List.length_set, length_fillW]; simp [consts]; omega))
          have fS := rS.frozen (13 + k)
          have hw : Hid (∀ l c, 4 ≤ l → Calls Tryd.prog 20 #[.slice (some ⟨w.heap.size + 1, 4 * k, none⟩) l c] wr fun e w' => e = .returned (.int .u32 (kw N k).toNat) ∧ ∃ n, w' = wr.drewN n) :=
            Lib.hid fun l c hl => word_any _ _ l c _ _ _ _ wr hl c0 c1 c2 c3
          clear c0 c1 c2 c3
          go_wp2_with (first | ((with_reducible show wpList _ _ _ _ _ _); first | (refine wpList_slice_lo rfl 26 (.tmp 4) (.tmp 30) rfl 12 5 Tryd.underlying26 Tryd.n5 (w.heap.size + 1) (4 * k) rfl rfl (by omega) (by omega) ?_)) | (go_at_call 20; refine (hw.out _ _ (by omega)).mono ?_; rintro e w' ⟨rfl, nq, rfl⟩))
          go_roundw
          case rel =>
            refine ⟨k + 1, by omega, by go_num, ?_, ?_, ?_, ?_⟩
            · exact Row.setOther (rN.drewN nq) (by show w.heap.size + 1 ≠ w.heap.size + 1 + 1 + 1; omega) _
            · exact Row.setOther (rO.drewN nq) (by show w.heap.size + 1 + 1 ≠ w.heap.size + 1 + 1 + 1; omega) _
            · exact set_wcells (fillW N 13 k ((fillW K 4 k1 consts).set 12 n)) (13 + k) (kw N k) ▸ (rS.drewN nq).set (13 + k) _
            · exact (below_drewN hb nq).setCell (by simp; omega) _
          case measure => simp [intOf]; omega
        · have H3 : Hid (k = 3) := Lib.hid (by omega)
          have hge3 : 3 ≤ k := by omega
          have eI : Hid (fillW N 13 k ((fillW K 4 k1 consts).set 12 n) = initL K N n) := by rw [H8.out, H3.out]; rfl
          rw [eI.out] at rS
          have nI : (Tryd.prog.info? 46).map (·.size) = some (wcells (initL K N n)).size := by rw [size_wcells, length_initL]; exact Tryd.n46
          have sI : (wcells (List.replicate 16 0#32)).size = (wcells (initL K N n)).size := by rw [size_wcells, size_wcells, length_initL]; rfl
          clear hlt
          go_wp2_with (first | ((with_reducible show wpList _ _ _ _ _ _); first | (refine wpList_load_arr rfl 46 (.tmp 7) rfl (w.heap.size + 1 + 1 + 1) 46 (wcells (initL K N n)) Tryd.underlying46 nI rfl rS ?_) | (refine wpList_put_arr rfl 46 (.tmp 6) (.tmp 35) rfl rfl (w.heap.size + 1 + 1) 46 _ (wcells (initL K N n)) rfl rfl rO nI sI (one_wcells _) ?_)))
          refine ret_arr Tryd.results16 (w.heap.size + 1 + 1) 46 (wcells (initL K N n)) Tryd.underlying46 nI (rO.setRow _) rfl rfl ⟨rfl, ?_⟩
          exact below_putRow hb (by omega) _
end Go.Proofs.YtnooklfhpjfbmaaDoor
