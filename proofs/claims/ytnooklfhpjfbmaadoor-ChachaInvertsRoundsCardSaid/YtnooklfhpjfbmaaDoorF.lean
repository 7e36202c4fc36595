/- sanity: its fixed examples, reckoned, and its contract: it returns true. -/
import Derived.Test.YtnooklfhpjfbmaaDoorE
set_option linter.all false
namespace Go.Proofs.YtnooklfhpjfbmaaDoor
open Go.RowKit Go.Fen
set_option linter.unusedVariables false
set_option maxHeartbeats 400000

def key32 : List (BitVec 8) := [0, 1, 2, 3, 4, 5, 6, 7, 8, 9, 10, 11, 12, 13, 14, 15, 16, 17, 18, 19, 20, 21, 22, 23, 24, 25, 26, 27, 28, 29, 30, 31]
def non9 : List (BitVec 8) := [0, 0, 0, 9, 0, 0, 0, 0x4a, 0, 0, 0, 0]
def text4 : List (BitVec 8) := [0x76, 0xb8, 0xe0, 0xac]
def zero32 : List (BitVec 8) := List.replicate 32 0#8
def zero12 : List (BitVec 8) := List.replicate 12 0#8
theorem ex10 : (blockL key32 non9 1#32).getD 0 0#8 = 0x10#8 := by decide +kernel
theorem ex11 : (blockL key32 non9 1#32).getD 1 0#8 = 0xf1#8 := by decide +kernel
theorem ex12 : (blockL key32 non9 1#32).getD 2 0#8 = 0xe7#8 := by decide +kernel
theorem ex13 : (blockL key32 non9 1#32).getD 3 0#8 = 0xe4#8 := by decide +kernel
theorem ex162 : (blockL key32 non9 1#32).getD 62 0#8 = 0x3c#8 := by decide +kernel
theorem ex163 : (blockL key32 non9 1#32).getD 63 0#8 = 0x4e#8 := by decide +kernel
theorem ex20 : (blockL zero32 zero12 0#32).getD 0 0#8 = 0x76#8 := by decide +kernel
theorem ex21 : (blockL zero32 zero12 0#32).getD 1 0#8 = 0xb8#8 := by decide +kernel
theorem ex3 : xorL zero32 zero12 text4 = [0#8, 0#8, 0#8, 1#8] := by decide +kernel

/-- the key of sanity, i bytes filled -/
def keyF : Nat → List (BitVec 8)
  | 0 => zero32
  | i + 1 => (keyF i).set i (BitVec.ofNat 8 i)
theorem length_keyF (i : Nat) : (keyF i).length = 32 := by
  induction i with
  | zero => rfl
  | succ i ih => simp [keyF, ih]
theorem keyF32 : keyF 32 = key32 := by decide +kernel

theorem cells_non9 : #[Value.int .u8 0, .int .u8 0, .int .u8 0, .int .u8 9, .int .u8 0, .int .u8 0, .int .u8 0, .int .u8 74, .int .u8 0, .int .u8 0, .int .u8 0, .int .u8 0] = bcells non9 := by kernel_rfl

theorem call9 (w : World) (hT : Tab w) : Calls Tryd.prog 12 #[.agg (bcells key32), .agg #[.int .u8 0, .int .u8 0, .int .u8 0, .int .u8 9, .int .u8 0, .int .u8 0, .int .u8 0, .int .u8 74, .int .u8 0, .int .u8 0, .int .u8 0, .int .u8 0], .int .u32 1] w fun e w' =>
    ∃ bl : List (BitVec 8), (e = .returned (.agg (bcells bl)) ∧ bl.length = 64 ∧ bl.getD 0 0#8 = 0x10#8 ∧ bl.getD 1 0#8 = 0xf1#8 ∧ bl.getD 2 0#8 = 0xe7#8 ∧ bl.getD 3 0#8 = 0xe4#8 ∧ bl.getD 62 0#8 = 0x3c#8 ∧ bl.getD 63 0#8 = 0x4e#8) ∧ Below w.heap.size w w' := by
  rw [cells_non9]
  refine (block_any key32 non9 rfl rfl 1#32 w hT).mono ?_
  rintro e w' ⟨rfl, hb⟩
  exact ⟨_, ⟨rfl, length_blockL _ _ _, ex10, ex11, ex12, ex13, ex162, ex163⟩, hb⟩
theorem cells_zero32 : #[Value.int .u8 0, .int .u8 0, .int .u8 0, .int .u8 0, .int .u8 0, .int .u8 0, .int .u8 0, .int .u8 0, .int .u8 0, .int .u8 0, .int .u8 0, .int .u8 0, .int .u8 0, .int .u8 0, .int .u8 0, .int .u8 0, .int .u8 0, .int .u8 0, .int .u8 0, .int .u8 0, .int .u8 0, .int .u8 0, .int .u8 0, .int .u8 0, .int .u8 0, .int .u8 0, .int .u8 0, .int .u8 0, .int .u8 0, .int .u8 0, .int .u8 0, .int .u8 0] = bcells zero32 := by kernel_rfl
theorem cells_zero12 : #[Value.int .u8 0, .int .u8 0, .int .u8 0, .int .u8 0, .int .u8 0, .int .u8 0, .int .u8 0, .int .u8 0, .int .u8 0, .int .u8 0, .int .u8 0, .int .u8 0] = bcells zero12 := by kernel_rfl

theorem call0 (w : World) (hT : Tab w) : Calls Tryd.prog 12 #[.agg #[Value.int .u8 0, .int .u8 0, .int .u8 0, .int .u8 0, .int .u8 0, .int .u8 0, .int .u8 0, .int .u8 0, .int .u8 0, .int .u8 0, .int .u8 0, .int .u8 0, .int .u8 0, .int .u8 0, .int .u8 0, .int .u8 0, .int .u8 0, .int .u8 0, .int .u8 0, .int .u8 0, .int .u8 0, .int .u8 0, .int .u8 0, .int .u8 0, .int .u8 0, .int .u8 0, .int .u8 0, .int .u8 0, .int .u8 0, .int .u8 0, .int .u8 0, .int .u8 0], .agg #[Value.int .u8 0, .int .u8 0, .int .u8 0, .int .u8 0, .int .u8 0, .int .u8 0, .int .u8 0, .int .u8 0, .int .u8 0, .int .u8 0, .int .u8 0, .int .u8 0], .int .u32 0] w fun e w' =>
    ∃ bl : List (BitVec 8), (e = .returned (.agg (bcells bl)) ∧ bl.length = 64 ∧ bl.getD 0 0#8 = 0x76#8 ∧ bl.getD 1 0#8 = 0xb8#8) ∧ Below w.heap.size w w' := by
  rw [cells_zero32, cells_zero12]
  refine (block_any zero32 zero12 rfl rfl 0#32 w hT).mono ?_
  rintro e w' ⟨rfl, hb⟩
  exact ⟨_, ⟨rfl, length_blockL _ _ _, ex20, ex21⟩, hb⟩
theorem callx (w : World) (hT : Tab w) (g : Nat) (h : Row w g 5 (bcells text4)) : Calls Tryd.prog 11 #[.agg #[Value.int .u8 0, .int .u8 0, .int .u8 0, .int .u8 0, .int .u8 0, .int .u8 0, .int .u8 0, .int .u8 0, .int .u8 0, .int .u8 0, .int .u8 0, .int .u8 0, .int .u8 0, .int .u8 0, .int .u8 0, .int .u8 0, .int .u8 0, .int .u8 0, .int .u8 0, .int .u8 0, .int .u8 0, .int .u8 0, .int .u8 0, .int .u8 0, .int .u8 0, .int .u8 0, .int .u8 0, .int .u8 0, .int .u8 0, .int .u8 0, .int .u8 0, .int .u8 0], .agg #[Value.int .u8 0, .int .u8 0, .int .u8 0, .int .u8 0, .int .u8 0, .int .u8 0, .int .u8 0, .int .u8 0, .int .u8 0, .int .u8 0, .int .u8 0, .int .u8 0], .slice (some ⟨g, 0, none⟩) 4 4] w fun e w' =>
    ∃ g', e = .returned (.slice (some ⟨g', 0, none⟩) 4 4) ∧ Row w' g' 5 (bcells [0#8, 0#8, 0#8, 1#8]) ∧ Below w.heap.size w w' := by
  rw [cells_zero32, cells_zero12]
  refine (xor_any zero32 zero12 rfl rfl (some ⟨g, 0, none⟩) text4 4 (by decide) w hT (Bs.of_row h)).mono ?_
  rintro e w' ⟨g', rfl, hr, hb⟩
  rw [ex3] at hr
  exact ⟨g', rfl, hr, hb⟩
theorem calln (K : List (BitVec 8)) (hK : K.length = 32) (w : World) (hT : Tab w) : Calls Tryd.prog 11 #[.agg (bcells K), .agg #[Value.int .u8 0, .int .u8 0, .int .u8 0, .int .u8 0, .int .u8 0, .int .u8 0, .int .u8 0, .int .u8 0, .int .u8 0, .int .u8 0, .int .u8 0, .int .u8 0], .slice none 0 0] w fun e w' =>
    ∃ g', e = .returned (.slice (some ⟨g', 0, none⟩) 0 0) ∧ Below w.heap.size w w' := by
  rw [cells_zero12]
  refine (xor_any K zero12 hK rfl none [] 0 (by decide) w hT (.inl rfl)).mono ?_
  rintro e w' ⟨g', rfl, hr, hb⟩
  exact ⟨g', rfl, hb⟩
theorem calls (w : World) (g g' : Nat) (h : Row w g 5 (bcells [0#8, 0#8, 0#8, 1#8])) (h' : Row w g' 5 (bcells [0#8, 0#8, 0#8, 1#8])) : Calls Tryd.prog 10 #[.slice (some ⟨g, 0, none⟩) 4 4, .slice (some ⟨g', 0, none⟩) 4 4] w fun e w' => e = .returned (.bool true) ∧ w = w' :=
  same_any (some ⟨g, 0, none⟩) (some ⟨g', 0, none⟩) [0#8, 0#8, 0#8, 1#8] 4 4 w (Bs.of_row h) (Bs.of_row h')

set_option maxHeartbeats 1000000 in
theorem sanity_any (w : World) (hT : Tab w) : Calls Tryd.prog 8 #[] w fun e w' => e = .returned (.bool true) ∧ Below w.heap.size w w' := by
  have h0 := hT.lt
  obtain ⟨g1, e1⟩ : ∃ g, g = w.heap.size := ⟨_, rfl⟩
  have E1 := Lib.hid e1
  have r0 : Row (w.alloc (.cells (bcells zero32) 25)) g1 25 (bcells (keyF 0)) := Row.new' _ _ e1
  have b0 : Below w.heap.size w (w.alloc (.cells (bcells zero32) 25)) := (Below.refl _ _).alloc (Nat.le_refl _) _
  have hle : w.heap.size ≤ g1 := by omega
  clear e1
  go_enter Tryd.func8, Tryd.ntmps8
  go_wp2_with (first | ((with_reducible show wpList _ _ _ _ _ _); first | (refine wpList_new_row rfl rfl 25 1 (.tmp 6) rfl rfl rfl rfl g1 E1.out (bcells zero32) rfl (congrArg Value.agg cells_zero32) _ Tryd.z25 Tryd.n25 rfl (one_bcells _) ?_)))
  go_loopw [2] (fun i wr => ∃ k : Nat, k ≤ 32 ∧ i = .int .i64 k ∧ Row wr g1 25 (bcells (keyF k)) ∧ Below w.heap.size w wr) (fun i _ => 32 - (intOf i).toNat)
  case atStart => exact ⟨0, Nat.zero_le _, rfl, r0, b0⟩
  case round =>
    clear r0 b0
    obtain ⟨k, hk, rfl, r1, hb⟩ := hrel
    by_cases hlt : k < 32
    · have c1 := (r1.cell k).trans (get_bcells _ k (by rw [length_keyF]; omega))
      have f1 := r1.frozen k
      have ek : (k : Int) = ((BitVec.ofNat 8 k).toNat : Int) := by rw [BitVec.toNat_ofNat, Nat.mod_eq_of_lt (by omega)]
      have Ek := Lib.hid ek
      clear ek
      go_wp2
      go_roundw
      case rel =>
        refine ⟨k + 1, by omega, by go_num, ?_, hb.setCell hle _⟩
        have := r1.set k (.int .u8 (BitVec.ofNat 8 k).toNat)
        rw [set_bcells, ← Ek.out] at this
        exact this
      case measure => simp [intOf]; omega
    · have hge : 32 ≤ k := by omega
      have hk32 : k = 32 := by omega
      rw [hk32, keyF32] at r1
      have nK : (Tryd.prog.info? 25).map (·.size) = some (bcells key32).size := by rw [size_bcells]; exact Tryd.n25
      clear hlt hk32
      go_wp2_with (first | ((with_reducible show wpList _ _ _ _ _ _); first | (refine wpList_load_arr rfl 25 (.tmp 1) rfl g1 25 (bcells key32) Tryd.underlying25 nK rfl r1 ?_)))
      refine (call9 wr (hT.below hb h0)).mono ?_
      rintro e w1 ⟨bl, ⟨rfl, lbl, x0, x1, x2, x3, x62, x63⟩, hb1⟩
      have r1' := r1.below hb1 r1.lt
      have hb' := hb.trans (hb1.mono hb.size)
      have nb : (Tryd.prog.info? 33).map (·.size) = some (bcells bl).size := by rw [size_bcells, lbl]; exact Tryd.n33
      obtain ⟨g3, e3⟩ : ∃ g, g = w1.heap.size := ⟨_, rfl⟩
      have E3 := Lib.hid e3
      have rb : Row (w1.alloc (.cells (bcells bl) 33)) g3 33 (bcells bl) := Row.new' _ _ e3
      have r1'' := r1'.alloc (.cells (bcells bl) 33)
      have hb'' := hb'.alloc hb'.size (.cells (bcells bl) 33)
      clear e3
      have Lbl := Lib.hid lbl
      have X := Lib.hid (And.intro x0 (And.intro x1 (And.intro x2 (And.intro x3 (And.intro x62 x63)))))
      clear lbl x0 x1 x2 x3 x62 x63 hb1
      go_wp2_with (first | ((with_reducible show wpList _ _ _ _ _ _); first | (refine wpList_new_row rfl rfl 33 3 (.tmp 17) rfl rfl rfl rfl g3 E3.out (bcells bl) rfl rfl _ Tryd.z33 nb (by rw [size_bcells, size_bcells, Lbl.out]; rfl) (one_bcells _) ?_)))
      refine (call0 _ (hT.below hb'' h0)).mono ?_
      rintro e w2 ⟨bl0, ⟨rfl, lbl0, y0, y1⟩, hb1⟩
      have r1 := r1''.below hb1 r1''.lt
      have rb' := rb.below hb1 rb.lt
      have hb := hb''.trans (hb1.mono hb''.size)
      clear r1'' r1' hb' hb'' rb hb1
      have nb0 : (Tryd.prog.info? 33).map (·.size) = some (bcells bl0).size := by rw [size_bcells, lbl0]; exact Tryd.n33
      obtain ⟨g4, e4⟩ : ∃ g, g = w2.heap.size := ⟨_, rfl⟩
      have E4 := Lib.hid e4
      have rc : Row (w2.alloc (.cells (bcells bl0) 33)) g4 33 (bcells bl0) := Row.new' _ _ e4
      have r1' := r1.alloc (.cells (bcells bl0) 33)
      have rb := rb'.alloc (.cells (bcells bl0) 33)
      have hb' := hb.alloc hb.size (.cells (bcells bl0) 33)
      clear e4 r1 rb' hb
      have Lbl0 := Lib.hid lbl0
      have Y := Lib.hid (And.intro y0 y1)
      clear lbl0 y0 y1
      go_wp2_with (first | ((with_reducible show wpList _ _ _ _ _ _); first | (refine wpList_new_row rfl rfl 33 4 (.tmp 20) rfl rfl rfl rfl g4 E4.out (bcells bl0) rfl rfl _ Tryd.z33 nb0 (by rw [size_bcells, size_bcells, Lbl0.out]; rfl) (one_bcells _) ?_)))
      have r1 := r1'.alloc (.cells (bcells text4) 5)
      have rb' := rb.alloc (.cells (bcells text4) 5)
      have rc' := rc.alloc (.cells (bcells text4) 5)
      have hb := hb'.alloc hb'.size (.cells (bcells text4) 5)
      have rt : Row ((w2.alloc (.cells (bcells bl0) 33)).alloc (.cells (bcells text4) 5)) (w2.heap.size + 1) 5 (bcells text4) := Row.new' _ _ (by simp)
      clear r1' rb rc hb'
      refine (callx _ (hT.below hb h0) _ rt).mono ?_
      rintro e w3 ⟨g5, rfl, r5, hb1⟩
      have r1' := r1.below hb1 r1.lt
      have rb := rb'.below hb1 rb'.lt
      have rc := rc'.below hb1 rc'.lt
      have hb' := hb.trans (hb1.mono hb.size)
      clear r1 rb' rc' hb hb1 rt
      have c0 : w3.cell? ⟨g3, 0, none⟩ = some (.int .u8 16) := by rw [(rb.cell 0).trans (get_bcells bl 0 (by rw [Lbl.out]; omega)), X.out.1]; rfl
      have c1 : w3.cell? ⟨g3, 1, none⟩ = some (.int .u8 241) := by rw [(rb.cell 1).trans (get_bcells bl 1 (by rw [Lbl.out]; omega)), X.out.2.1]; rfl
      have c2 : w3.cell? ⟨g3, 2, none⟩ = some (.int .u8 231) := by rw [(rb.cell 2).trans (get_bcells bl 2 (by rw [Lbl.out]; omega)), X.out.2.2.1]; rfl
      have c3 : w3.cell? ⟨g3, 3, none⟩ = some (.int .u8 228) := by rw [(rb.cell 3).trans (get_bcells bl 3 (by rw [Lbl.out]; omega)), X.out.2.2.2.1]; rfl
      have c62 : w3.cell? ⟨g3, 62, none⟩ = some (.int .u8 60) := by rw [(rb.cell 62).trans (get_bcells bl 62 (by rw [Lbl.out]; omega)), X.out.2.2.2.2.1]; rfl
      have c63 : w3.cell? ⟨g3, 63, none⟩ = some (.int .u8 78) := by rw [(rb.cell 63).trans (get_bcells bl 63 (by rw [Lbl.out]; omega)), X.out.2.2.2.2.2]; rfl
      have d0 : w3.cell? ⟨g4, 0, none⟩ = some (.int .u8 118) := by rw [(rc.cell 0).trans (get_bcells bl0 0 (by rw [Lbl0.out]; omega)), Y.out.1]; rfl
      have d1 : w3.cell? ⟨g4, 1, none⟩ = some (.int .u8 184) := by rw [(rc.cell 1).trans (get_bcells bl0 1 (by rw [Lbl0.out]; omega)), Y.out.2]; rfl
      go_wp2_with fail
      have r6 : Row (w3.alloc (.cells (bcells [0#8, 0#8, 0#8, 1#8]) 5)) w3.heap.size 5 (bcells [0#8, 0#8, 0#8, 1#8]) := Row.new' _ _ rfl
      refine (calls (w3.alloc (.cells (bcells [0#8, 0#8, 0#8, 1#8]) 5)) g5 w3.heap.size (r5.alloc _) r6).mono ?_
      rintro e w4 ⟨rfl, rfl⟩
      have r1 := r1'.alloc (.cells (bcells [0#8, 0#8, 0#8, 1#8]) 5)
      have hb := hb'.alloc hb'.size (.cells (bcells [0#8, 0#8, 0#8, 1#8]) 5)
      clear c0 c1 c2 c3 c62 c63 d0 d1 r6 r1' hb' rb rc r5
      go_wp2_with (first | ((with_reducible show wpList _ _ _ _ _ _); first | (refine wpList_wanted rfl fun K hK => wp_load_arr 25 (.tmp 1) rfl 69 rfl g1 25 (bcells key32) Tryd.underlying25 nK rfl r1 (hK _ _ ?_))))
      refine (calln key32 rfl _ (hT.below hb h0)).mono ?_
      rintro e w5 ⟨g7, rfl, hb1⟩
      have hb2 := hb.trans (hb1.mono hb.size)
      clear hb1 hb r1
      go_wp2
      go_ret
      exact ⟨rfl, hb2⟩
end Go.Proofs.YtnooklfhpjfbmaaDoor
