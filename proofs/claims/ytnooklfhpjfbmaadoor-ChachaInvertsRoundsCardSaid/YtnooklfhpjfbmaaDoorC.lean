/- The contract of chacha.Block: a block of the key stream. -/
import Derived.Test.YtnooklfhpjfbmaaDoorB
set_option linter.all false
namespace Go.Proofs.YtnooklfhpjfbmaaDoor
open Go.RowKit Go.Fen
set_option linter.unusedVariables false
set_option maxHeartbeats 400000

/-- the table of the quarter rounds -/
def qtab : List Int := [0, 4, 8, 12, 1, 5, 9, 13, 2, 6, 10, 14, 3, 7, 11, 15, 0, 5, 10, 15, 1, 6, 11, 12, 2, 7, 8, 13, 3, 4, 9, 14]
def qi (j c : Nat) : Nat := (qtab.getD (4 * j + c) 0).toNat
def quarter (l : List (BitVec 32)) (a b c d : Nat) : List (BitVec 32) := mixL (mixL (mixL (mixL l a b d 16) c d b 12) a b d 8) c d b 7
def innerQ : Nat → List (BitVec 32) → List (BitVec 32)
  | 0, l => l
  | j + 1, l => quarter (innerQ j l) (qi j 0) (qi j 1) (qi j 2) (qi j 3)
def roundsQ : Nat → List (BitVec 32) → List (BitVec 32)
  | 0, l => l
  | k + 1, l => innerQ 8 (roundsQ k l)
theorem length_mixL (l : List (BitVec 32)) (a b d k : Nat) : (mixL l a b d k).length = l.length := by simp [mixL]
theorem length_quarter (l : List (BitVec 32)) (a b c d : Nat) : (quarter l a b c d).length = l.length := by simp [quarter, length_mixL]
theorem length_innerQ (j : Nat) (l : List (BitVec 32)) : (innerQ j l).length = l.length := by
  induction j with
  | zero => rfl
  | succ j ih => rw [innerQ, length_quarter, ih]
theorem length_roundsQ (k : Nat) (l : List (BitVec 32)) : (roundsQ k l).length = l.length := by
  induction k with
  | zero => rfl
  | succ k ih => rw [roundsQ, length_innerQ, ih]
/-- the bytes of the words of l, each added to the word of f -/
def outB (f l : List (BitVec 32)) : Nat → List (BitVec 8)
  | 0 => List.replicate 64 0#8
  | i + 1 => ((((outB f l i).set (4 * i) (byteW (l.getD i 0#32 + f.getD i 0#32) 0)).set (4 * i + 1) (byteW (l.getD i 0#32 + f.getD i 0#32) 1)).set (4 * i + 2) (byteW (l.getD i 0#32 + f.getD i 0#32) 2)).set (4 * i + 3) (byteW (l.getD i 0#32 + f.getD i 0#32) 3)
theorem length_outB (f l : List (BitVec 32)) (i : Nat) : (outB f l i).length = 64 := by
  induction i with
  | zero => simp [outB]
  | succ i ih => simp [outB, ih]
def blockL (K N : List (BitVec 8)) (n : BitVec 32) : List (BitVec 8) := outB (initL K N n) (roundsQ 10 (initL K N n)) 16
theorem length_blockL (K N : List (BitVec 8)) (n : BitVec 32) : (blockL K N n).length = 64 := length_outB _ _ _

theorem Tryd.n35 : (Tryd.prog.info? 35).map (·.size) = some 1 := by kernel_rfl
theorem Tryd.a35 (w : World) : (isAgg 35).run Tryd.prog w = .ok false w := by kernel_rfl
theorem Tryd.n48 : (Tryd.prog.info? 48).map (·.size) = some 32 := by kernel_rfl
/-- The table lies in memory. -/
def Tab (w : World) : Prop := ∃ t fr, w.heap[0]? = some (.cells (icells qtab) t fr)
theorem Tab.below {w w' : World} {B : Nat} (h : Tab w) (hb : Below B w w') (hB : 0 < B) : Tab w' := by
  obtain ⟨t, fr, h⟩ := h
  exact ⟨t, fr, (hb.block 0 hB).trans h⟩
theorem Tab.lt {w : World} (h : Tab w) : 0 < w.heap.size := by
  obtain ⟨t, fr, h⟩ := h
  exact (Array.getElem?_eq_some_iff.1 h).1

theorem idx0 (w : World) : (Instr.index 48 (.agg (icells qtab)) (.int .i64 ((0 : Nat) : Int))).run Tryd.prog w = .ok (.agg #[.int .i64 ((0 : Nat) : Int), .int .i64 ((4 : Nat) : Int), .int .i64 ((8 : Nat) : Int), .int .i64 ((12 : Nat) : Int)]) w := by kernel_rfl
theorem idx1 (w : World) : (Instr.index 48 (.agg (icells qtab)) (.int .i64 ((1 : Nat) : Int))).run Tryd.prog w = .ok (.agg #[.int .i64 ((1 : Nat) : Int), .int .i64 ((5 : Nat) : Int), .int .i64 ((9 : Nat) : Int), .int .i64 ((13 : Nat) : Int)]) w := by kernel_rfl
theorem idx2 (w : World) : (Instr.index 48 (.agg (icells qtab)) (.int .i64 ((2 : Nat) : Int))).run Tryd.prog w = .ok (.agg #[.int .i64 ((2 : Nat) : Int), .int .i64 ((6 : Nat) : Int), .int .i64 ((10 : Nat) : Int), .int .i64 ((14 : Nat) : Int)]) w := by kernel_rfl
theorem idx3 (w : World) : (Instr.index 48 (.agg (icells qtab)) (.int .i64 ((3 : Nat) : Int))).run Tryd.prog w = .ok (.agg #[.int .i64 ((3 : Nat) : Int), .int .i64 ((7 : Nat) : Int), .int .i64 ((11 : Nat) : Int), .int .i64 ((15 : Nat) : Int)]) w := by kernel_rfl
theorem idx4 (w : World) : (Instr.index 48 (.agg (icells qtab)) (.int .i64 ((4 : Nat) : Int))).run Tryd.prog w = .ok (.agg #[.int .i64 ((0 : Nat) : Int), .int .i64 ((5 : Nat) : Int), .int .i64 ((10 : Nat) : Int), .int .i64 ((15 : Nat) : Int)]) w := by kernel_rfl
theorem idx5 (w : World) : (Instr.index 48 (.agg (icells qtab)) (.int .i64 ((5 : Nat) : Int))).run Tryd.prog w = .ok (.agg #[.int .i64 ((1 : Nat) : Int), .int .i64 ((6 : Nat) : Int), .int .i64 ((11 : Nat) : Int), .int .i64 ((12 : Nat) : Int)]) w := by kernel_rfl
theorem idx6 (w : World) : (Instr.index 48 (.agg (icells qtab)) (.int .i64 ((6 : Nat) : Int))).run Tryd.prog w = .ok (.agg #[.int .i64 ((2 : Nat) : Int), .int .i64 ((7 : Nat) : Int), .int .i64 ((8 : Nat) : Int), .int .i64 ((13 : Nat) : Int)]) w := by kernel_rfl
theorem idx7 (w : World) : (Instr.index 48 (.agg (icells qtab)) (.int .i64 ((7 : Nat) : Int))).run Tryd.prog w = .ok (.agg #[.int .i64 ((3 : Nat) : Int), .int .i64 ((4 : Nat) : Int), .int .i64 ((9 : Nat) : Int), .int .i64 ((14 : Nat) : Int)]) w := by kernel_rfl
theorem q_facts (j : Nat) (hj : j < 8) (w : World) : ∃ q0 q1 q2 q3 : Nat, (Instr.index 48 (.agg (icells qtab)) (.int .i64 (j : Int))).run Tryd.prog w = .ok (.agg #[.int .i64 (q0 : Int), .int .i64 (q1 : Int), .int .i64 (q2 : Int), .int .i64 (q3 : Int)]) w ∧
    (q0 < 16 ∧ q1 < 16 ∧ q2 < 16 ∧ q3 < 16) ∧ (q0 ≠ q1 ∧ q0 ≠ q3 ∧ q1 ≠ q3 ∧ q2 ≠ q3 ∧ q2 ≠ q1 ∧ q3 ≠ q1) ∧ ∀ l, innerQ (j + 1) l = quarter (innerQ j l) q0 q1 q2 q3 := by
  refine ⟨qi j 0, qi j 1, qi j 2, qi j 3, ?_, ?_, ?_, fun l => rfl⟩
  · match j, hj with
    | 0, _ => exact idx0 w
    | 1, _ => exact idx1 w
    | 2, _ => exact idx2 w
    | 3, _ => exact idx3 w
    | 4, _ => exact idx4 w
    | 5, _ => exact idx5 w
    | 6, _ => exact idx6 w
    | 7, _ => exact idx7 w
  · match j, hj with
    | 0, _ | 1, _ | 2, _ | 3, _ | 4, _ | 5, _ | 6, _ | 7, _ => decide
  · match j, hj with
    | 0, _ | 1, _ | 2, _ | 3, _ | 4, _ | 5, _ | 6, _ | 7, _ => decide

/-- What the loops of Block keep: the block of the result, the first state, the state, and all that was there before. -/
structure BInv (w0 w : World) (g6 g7 g8 : Nat) (f l : List (BitVec 32)) : Prop where
  r6 : Row w g6 33 (bcells (List.replicate 64 0#8))
  r7 : Row w g7 46 (wcells f)
  r8 : Row w g8 46 (wcells l)
  hb : Below w0.heap.size w0 w
theorem BInv.alloc {w0 w : World} {g6 g7 g8 : Nat} {f l : List (BitVec 32)} (h : BInv w0 w g6 g7 g8 f l) (o : Obj) : BInv w0 (w.alloc o) g6 g7 g8 f l :=
  ⟨h.r6.alloc o, h.r7.alloc o, h.r8.alloc o, h.hb.alloc h.hb.size o⟩
theorem BInv.drewN {w0 w : World} {g6 g7 g8 : Nat} {f l : List (BitVec 32)} (h : BInv w0 w g6 g7 g8 f l) (n : Nat) : BInv w0 (w.drewN n) g6 g7 g8 f l :=
  ⟨h.r6, h.r7, h.r8, below_drewN h.hb n⟩
theorem BInv.step {w0 w w' : World} {g6 g7 g8 : Nat} {f l l' : List (BitVec 32)} (h : BInv w0 w g6 g7 g8 f l) (hg : w.grownBy w' (some g8)) (hr : Row w' g8 46 (wcells l')) (h6 : g6 ≠ g8) (h7 : g7 ≠ g8) (h8 : w0.heap.size ≤ g8) : BInv w0 w' g6 g7 g8 f l' :=
  ⟨h.r6.grown hg (by simpa using h6), h.r7.grown hg (by simpa using h7), hr, h.hb.grown hg h.hb.size (fun k hk => by simp at hk; omega)⟩

theorem BInv.other {w0 w : World} {g6 g7 g8 g : Nat} {f l : List (BitVec 32)} (h : BInv w0 w g6 g7 g8 f l) (h6 : g6 < g7) (h7 : g7 < g8) (h8 : g8 < g) (hB : w0.heap.size ≤ g) (i : Nat) (v : Value) : BInv w0 (w.setCell ⟨g, i, none⟩ v) g6 g7 g8 f l :=
  ⟨h.r6.setOther (by show g6 ≠ g; omega) v, h.r7.setOther (by show g7 ≠ g; omega) v, h.r8.setOther (by show g8 ≠ g; omega) v, h.hb.setCell hB v⟩

set_option maxHeartbeats 2000000 in
theorem block_any (K N : List (BitVec 8)) (hK : K.length = 32) (hN : N.length = 12) (n : BitVec 32) (w : World) (hT : Tab w) :
    Calls Tryd.prog 12 #[.agg (bcells K), .agg (bcells N), .int .u32 n.toNat] w fun e w' => e = .returned (.agg (bcells (blockL K N n))) ∧ Below w.heap.size w w' := by
  have nK : (Tryd.prog.info? 25).map (·.size) = some (bcells K).size := by rw [size_bcells K, hK]; exact Tryd.n25
  have nN : (Tryd.prog.info? 26).map (·.size) = some (bcells N).size := by rw [size_bcells N, hN]; exact Tryd.n26
  have HB : Hid (blockL K N n = outB (initL K N n) (roundsQ 10 (initL K N n)) 16) := Lib.hid rfl
  have lf := length_initL K N n
  have hi := fun w => initial_any K N hK hN n w
  generalize blockL K N n = bl at *
  generalize initL K N n = f at *
  have nf : (Tryd.prog.info? 46).map (·.size) = some (wcells f).size := by rw [size_wcells, lf]; exact Tryd.n46
  have Hi := Lib.hid hi
  have Hf := Lib.hid lf
  clear hi lf
  go_enter Tryd.func12, Tryd.ntmps12
  go_wp2_with (first | ((with_reducible show wpList _ _ _ _ _ _); first | (refine wpList_box_row rfl 25 (.tmp 0) rfl (bcells K) rfl w.heap.size rfl ?_) | (refine wpList_box_row rfl 26 (.tmp 1) rfl (bcells N) rfl (w.heap.size + 1) (by simp) ?_) | (refine wpList_alloc_row rfl 33 rfl _ Tryd.z33 (w.heap.size + 1 + 1) (by simp) ?_) | (refine wpList_load_arr rfl 25 (.tmp 3) rfl w.heap.size 25 (bcells K) Tryd.underlying25 nK rfl (by exact Row.alloc (Row.alloc (Row.new' _ _ (by simp)) _) _) ?_) | (refine wpList_load_arr rfl 26 (.tmp 4) rfl (w.heap.size + 1) 26 (bcells N) Tryd.underlying26 nN rfl (by exact Row.alloc (Row.new' _ _ (by simp)) _) ?_)))
  refine (Hi.out _).mono ?_
  rintro e w1 ⟨rfl, hb1⟩
  have b1 : Below w.heap.size w w1 := ((((Below.refl _ _).alloc (Nat.le_refl _) _).alloc (by simp) _).alloc (by simp; omega) _).trans (hb1.mono (by simp; omega))
  have r6 : Row w1 (w.heap.size + 1 + 1) 33 (bcells (List.replicate 64 0#8)) := (Row.new' _ _ (by simp)).below hb1 (by simp)
  have s1 : w.heap.size + 1 + 1 + 1 ≤ w1.heap.size := by have := hb1.size; simpa using this
  clear hb1
  go_wp2_with (first | ((with_reducible show wpList _ _ _ _ _ _); first | (refine wpList_new_row rfl rfl 46 7 (.tmp 21) rfl rfl rfl rfl w1.heap.size rfl (wcells f) rfl rfl _ Tryd.z46 nf (by rw [size_wcells, size_wcells, Hf.out]; rfl) (one_wcells _) ?_) | (refine wpList_load_arr rfl 46 (.tmp 7) rfl w1.heap.size 46 (wcells f) Tryd.underlying46 nf rfl (by exact Row.new' _ _ rfl) ?_) | (refine wpList_new_row rfl rfl 46 8 (.tmp 22) rfl rfl rfl rfl (w1.heap.size + 1) (by simp) (wcells f) rfl rfl _ Tryd.z46 nf (by rw [size_wcells, size_wcells, Hf.out]; rfl) (one_wcells _) ?_)))
  have hT1 : Tab w1 := hT.below b1 hT.lt
  have h0 : 0 < w.heap.size := hT.lt
  obtain ⟨g8, hg8⟩ : ∃ g8, g8 = w1.heap.size + 1 := ⟨_, rfl⟩
  obtain ⟨g7, hg7⟩ : ∃ g7, g7 = w1.heap.size := ⟨_, rfl⟩
  obtain ⟨g6, hg6⟩ : ∃ g6, g6 = w.heap.size + 1 + 1 := ⟨_, rfl⟩
  have inv0 : BInv w ((w1.alloc (Obj.cells (wcells f) 46)).alloc (Obj.cells (wcells f) 46)) g6 g7 g8 f f :=
    ⟨((hg6 ▸ r6).alloc _).alloc _, Row.alloc (Row.new' _ _ hg7) _, Row.new' _ _ (by simp [hg8]), (b1.alloc (by omega) _).alloc (by simp; omega) _⟩
  have e6 : g6 < g7 := by omega
  have e7 : g7 < g8 := by omega
  have eB : w.heap.size < g6 := by omega
  rw [← hg8, ← hg7, ← hg6]
  have H8 := Lib.hid hg8
  have H7 := Lib.hid hg7
  have H6 := Lib.hid hg6
  clear hg8 hg7 hg6 r6
  go_loopw [23] (fun i wr => ∃ k : Nat, k ≤ 10 ∧ i = .int .i64 k ∧ BInv w wr g6 g7 g8 f (roundsQ k f)) (fun i _ => 10 - (intOf i).toNat)
  case atStart => exact ⟨0, Nat.zero_le _, rfl, inv0⟩
  case round =>
    clear inv0
    obtain ⟨k, hk, rfl, inv⟩ := hrel
    by_cases hlt : k < 10
    · obtain ⟨t, fr, hQ⟩ := (hT.below inv.hb h0 : Tab wr)
      have nQ : (Tryd.prog.info? 48).map (·.size) = some (icells qtab).size := by rw [size_icells]; exact Tryd.n48
      have HQ := Lib.hid hQ
      clear hQ
      go_wp2_with (first | ((with_reducible show wpList _ _ _ _ _ _); first | (refine wpList_load_row rfl 48 (.global 0) rfl 0 rfl t (icells qtab) fr _ HQ.out Tryd.underlying48 rfl nQ ?_)))
      have hkk : (k : Int) < 10 := by omega
      have Hlk : Hid ((roundsQ k f).length = 16) := Lib.hid (by rw [length_roundsQ, Hf.out])
      obtain ⟨lk, hlk⟩ : ∃ l, l = roundsQ k f := ⟨_, rfl⟩
      rw [← hlk] at inv Hlk
      have HLK := Lib.hid hlk
      clear hlk
      go_loopw [26] (fun j wr => ∃ m : Nat, m ≤ 8 ∧ j = .int .i64 m ∧ BInv w wr g6 g7 g8 f (innerQ m lk)) (fun j _ => 8 - (intOf j).toNat)
      case atStart => exact ⟨0, Nat.zero_le _, rfl, inv⟩
      case round =>
        clear inv HQ
        obtain ⟨m, hm, rfl, inv⟩ := hrel
        by_cases hlm : m < 8
        · obtain ⟨q0, q1, q2, q3, hidx, ⟨b0, b1, b2, b3⟩, ⟨d01, d03, d13, d23, d21, d31⟩, hq⟩ := q_facts m hlm wr
          have Hidx := Lib.hid hidx
          have Hq := Lib.hid hq
          clear hidx hq
          have i0 : (q0 : Int) < 16 := by omega
          have i1 : (q1 : Int) < 16 := by omega
          have i2 : (q2 : Int) < 16 := by omega
          have i3 : (q3 : Int) < 16 := by omega
          go_wp2_with (first | ((with_reducible show wpList _ _ _ _ _ _); first | (refine wpList_index_run rfl 48 (.tmp 25) (.tmp 26) rfl _ _ _ rfl rfl Hidx.out ?_) | (refine wpList_new_row rfl rfl 44 10 (.tmp 28) rfl rfl rfl rfl wr.heap.size rfl #[.int .i64 (q0 : Int), .int .i64 (q1 : Int), .int .i64 (q2 : Int), .int .i64 (q3 : Int)] rfl rfl _ Tryd.z44 Tryd.n44 rfl rfl ?_)))
          go_quiet (fail)
          have inv1 := (inv.alloc (Obj.cells #[.int .i64 (q0 : Int), .int .i64 (q1 : Int), .int .i64 (q2 : Int), .int .i64 (q3 : Int)] 44)).drewN nq
          generalize hw1 : (wr.alloc (Obj.cells #[.int .i64 (q0 : Int), .int .i64 (q1 : Int), .int .i64 (q2 : Int), .int .i64 (q3 : Int)] 44)).drewN nq = w2 at *
          clear hw1
          have ll : (innerQ m lk).length = 16 := by rw [length_innerQ, Hlk.out]
          obtain ⟨l0, hl0⟩ : ∃ l, l = innerQ m lk := ⟨_, rfl⟩
          rw [← hl0] at inv1 ll
          have Hq0 : Hid (∀ l, innerQ (m + 1) l = quarter (innerQ m l) q0 q1 q2 q3) := Hq
          have HL0 := Lib.hid hl0
          clear hl0 Hq
          go_wp2_with fail
          refine (mix_any g8 q0 q1 q3 46 16 l0 (by omega) (by omega) (by omega) d01 d03 d13 (by omega) _ inv1.r8).mono ?_
          rintro e w3 ⟨rfl, hg, hr⟩
          have inv2 := inv1.step hg hr (by omega) (by omega) (by omega)
          clear hg hr inv1
          have hm1 : (mixL l0 q0 q1 q3 16).length = 16 := by rw [length_mixL]; exact ll
          obtain ⟨l1, hl1⟩ : ∃ l, l = mixL l0 q0 q1 q3 16 := ⟨_, rfl⟩
          rw [← hl1] at inv2 hm1
          have HL1 := Lib.hid hl1
          clear hl1
          go_wp2_with fail
          refine (mix_any g8 q2 q3 q1 46 12 l1 (by omega) (by omega) (by omega) d23 d21 d31 (by omega) _ inv2.r8).mono ?_
          rintro e w4 ⟨rfl, hg, hr⟩
          have inv3 := inv2.step hg hr (by omega) (by omega) (by omega)
          clear hg hr inv2
          have hm2 : (mixL l1 q2 q3 q1 12).length = 16 := by rw [length_mixL]; exact hm1
          obtain ⟨l2, hl2⟩ : ∃ l, l = mixL l1 q2 q3 q1 12 := ⟨_, rfl⟩
          rw [← hl2] at inv3 hm2
          have HL2 := Lib.hid hl2
          clear hl2
          go_wp2_with fail
          refine (mix_any g8 q0 q1 q3 46 8 l2 (by omega) (by omega) (by omega) d01 d03 d13 (by omega) _ inv3.r8).mono ?_
          rintro e w5 ⟨rfl, hg, hr⟩
          have inv4 := inv3.step hg hr (by omega) (by omega) (by omega)
          clear hg hr inv3
          have hm3 : (mixL l2 q0 q1 q3 8).length = 16 := by rw [length_mixL]; exact hm2
          obtain ⟨l3, hl3⟩ : ∃ l, l = mixL l2 q0 q1 q3 8 := ⟨_, rfl⟩
          rw [← hl3] at inv4 hm3
          have HL3 := Lib.hid hl3
          clear hl3
          go_wp2_with fail
          refine (mix_any g8 q2 q3 q1 46 7 l3 (by omega) (by omega) (by omega) d23 d21 d31 (by omega) _ inv4.r8).mono ?_
          rintro e w6 ⟨rfl, hg, hr⟩
          have inv5 := inv4.step hg hr (by omega) (by omega) (by omega)
          clear hg hr inv4
          have hm4 : (mixL l3 q2 q3 q1 7).length = 16 := by rw [length_mixL]; exact hm3
          obtain ⟨l4, hl4⟩ : ∃ l, l = mixL l3 q2 q3 q1 7 := ⟨_, rfl⟩
          rw [← hl4] at inv5 hm4
          have HL4 := Lib.hid hl4
          clear hl4
          go_wp2
          go_roundw
          case rel =>
            refine ⟨m + 1, by omega, by go_num, ?_⟩
            have e : innerQ (m + 1) lk = l4 := by rw [Hq0.out, HL4.out, HL3.out, HL2.out, HL1.out, HL0.out]; rfl
            rw [e]; exact inv5
          case measure => simp [intOf]; omega
        · have H8m : Hid (m = 8) := Lib.hid (by omega)
          have hge : 8 ≤ m := by omega
          go_wp2
          go_roundw
          case rel =>
            refine ⟨k + 1, by omega, by go_num, ?_⟩
            have e : roundsQ (k + 1) f = innerQ m lk := by rw [H8m.out, HLK.out]; rfl
            rw [e]; exact inv
          case measure => simp [intOf]; omega
    · have H10 : Hid (k = 10) := Lib.hid (by omega)
      have hge : 10 ≤ k := by omega
      have Hlk : Hid ((roundsQ k f).length = 16) := Lib.hid (by rw [length_roundsQ, Hf.out])
      obtain ⟨lk, hlk⟩ : ∃ l, l = roundsQ k f := ⟨_, rfl⟩
      rw [← hlk] at inv Hlk
      have HLK := Lib.hid hlk
      clear hlk hlt
      have nl : (Tryd.prog.info? 46).map (·.size) = some (wcells lk).size := by rw [size_wcells, Hlk.out]; exact Tryd.n46
      obtain ⟨g15, hg15⟩ : ∃ g, g = wr.heap.size := ⟨_, rfl⟩
      have e8 : g8 < g15 := by rw [hg15]; exact inv.r8.lt
      have r15 : Row (wr.alloc (.cells (bcells (List.replicate 64 0#8)) 33)) g15 33 (bcells (List.replicate 64 0#8)) := Row.new' _ _ hg15
      have inv1 := inv.alloc (.cells (bcells (List.replicate 64 0#8)) 33)
      have Hg15 := Lib.hid hg15
      clear hg15
      go_wp2_with (first | ((with_reducible show wpList _ _ _ _ _ _); first | (refine wpList_alloc_row rfl 33 rfl _ Tryd.z33 g15 Hg15.out ?_) | (refine wpList_load_arr rfl 46 (.tmp 8) rfl g8 46 (wcells lk) Tryd.underlying46 nl rfl inv1.r8 ?_)))
      go_loopw [60] (fun j wr => ∃ i : Nat, i ≤ 16 ∧ j = .int .i64 i ∧ BInv w wr g6 g7 g8 f lk ∧ Row wr g15 33 (bcells (outB f lk i))) (fun j _ => 16 - (intOf j).toNat)
      case atStart => exact ⟨0, Nat.zero_le _, rfl, inv1, r15⟩
      case round =>
        clear inv inv1 r15
        obtain ⟨i, hi, rfl, inv, r15⟩ := hrel
        by_cases hli : i < 16
        · have c7 := (inv.r7.cell i).trans (get_wcells f i (by rw [Hf.out]; omega))
          have hix := run_index_cell (P := Tryd.prog) wr 46 35 16 i (wcells lk) _ Tryd.underlying46 Tryd.n35 (Tryd.a35 wr) hli (get_wcells lk i (by rw [Hlk.out]; omega))
          have hs := u32_add_bv (lk.getD i 0#32) (f.getD i 0#32)
          have ho : outB f lk (i + 1) = ((((outB f lk i).set (4 * i) (byteW (lk.getD i 0#32 + f.getD i 0#32) 0)).set (4 * i + 1) (byteW (lk.getD i 0#32 + f.getD i 0#32) 1)).set (4 * i + 2) (byteW (lk.getD i 0#32 + f.getD i 0#32) 2)).set (4 * i + 3) (byteW (lk.getD i 0#32 + f.getD i 0#32) 3) := rfl
          have lo := length_outB f lk i
          generalize lk.getD i 0#32 + f.getD i 0#32 = x at *
          generalize lk.getD i 0#32 = x0 at *
          generalize f.getD i 0#32 = x1 at *
          have Hix := Lib.hid hix
          have Ho := Lib.hid ho
          clear hix ho
          have f15 := r15.frozen
          have c0 := (r15.cell (4 * i)).trans (get_bcells _ (4 * i) (by omega))
          have c1 := (r15.cell (4 * i + 1)).trans (get_bcells _ (4 * i + 1) (by omega))
          have c2 := (r15.cell (4 * i + 2)).trans (get_bcells _ (4 * i + 2) (by omega))
          have c3 := (r15.cell (4 * i + 3)).trans (get_bcells _ (4 * i + 3) (by omega))
          have y0 := byte_bv0 x
          have y1 : (x.toNat : Int) / 256 % 256 = _ := byte_bv x 1
          have y2 : (x.toNat : Int) / 65536 % 256 = _ := byte_bv x 2
          have y3 : (x.toNat : Int) / 16777216 % 256 = _ := byte_bv x 3
          generalize byteW x 0 = z0 at *
          generalize byteW x 1 = z1 at *
          generalize byteW x 2 = z2 at *
          generalize byteW x 3 = z3 at *
          have hx := x.isLt
          replace y3 : (x.toNat : Int) / 16777216 = (z3.toNat : Int) := by rw [← y3]; omega
          clear lo
          go_wp2_with (first | ((with_reducible show wpList _ _ _ _ _ _); first | (refine wpList_index_run rfl 46 (.tmp 59) (.tmp 60) rfl _ _ _ rfl rfl Hix.out ?_)))
          go_roundw
          case rel =>
            refine ⟨i + 1, by omega, by go_num, ?_, ?_⟩
            · exact BInv.other (BInv.other (BInv.other (BInv.other inv e6 e7 e8 (by omega) _ _) e6 e7 e8 (by omega) _ _) e6 e7 e8 (by omega) _ _) e6 e7 e8 (by omega) _ _
            · rw [Ho.out, ← set_bcells, ← set_bcells, ← set_bcells, ← set_bcells]
              exact (((r15.set _ _).set _ _).set _ _).set _ _
          case measure => simp [intOf]; omega
        · have H16 : Hid (i = 16) := Lib.hid (by omega)
          have hge16 : 16 ≤ i := by omega
          have e : outB f lk i = bl := by rw [H16.out, HLK.out, H10.out, HB.out]
          rw [e] at r15
          have lb : bl.length = 64 := by rw [HB.out, length_outB]
          have nb : (Tryd.prog.info? 33).map (·.size) = some (bcells bl).size := by rw [size_bcells, lb]; exact Tryd.n33
          have sb : (bcells (List.replicate 64 0#8)).size = (bcells bl).size := by rw [size_bcells, size_bcells, lb]; rfl
          have Hlb := Lib.hid lb
          clear e lb hli
          go_wp2_with (first | ((with_reducible show wpList _ _ _ _ _ _); first | (refine wpList_load_arr rfl 33 (.tmp 15) rfl g15 33 (bcells bl) Tryd.underlying33 nb rfl r15 ?_) | (refine wpList_put_arr rfl 33 (.tmp 6) (.tmp 96) rfl rfl g6 33 _ (bcells bl) rfl rfl inv.r6 nb sb (one_bcells _) ?_)))
          refine ret_arr Tryd.results12 g6 33 (bcells bl) Tryd.underlying33 nb (inv.r6.setRow _) rfl rfl ⟨rfl, ?_⟩
          exact below_putRow inv.hb (by omega) _
end Go.Proofs.YtnooklfhpjfbmaaDoor
