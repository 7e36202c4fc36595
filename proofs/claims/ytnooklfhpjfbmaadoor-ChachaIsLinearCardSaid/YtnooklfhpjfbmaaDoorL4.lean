/- The law ChachaIsLinear: its walk. -/
import Derived.Test.YtnooklfhpjfbmaaDoorL2
namespace Go.Proofs.YtnooklfhpjfbmaaDoor
open Go.RowKit Go.Fen
set_option linter.unusedVariables false
set_option maxHeartbeats 400000

theorem wpList_min3 {P : Program} {ops : Array Oper} {rest : List Oper} {a : Act} {w : World} {Q : Exit → Act → World → Prop} {o : Oper} (h1 : o.guard = none) (x y z : Operand) (ts : Array TypeId) (ho : o.op = .call { callee := .builtin .min, args := #[x, y, z], argTypes := ts })
    {p q r m : Int} (hx : a.eval x = .int .i64 p) (hy : a.eval y = .int .i64 q) (hz : a.eval z = .int .i64 r) (hm : m = min (min p q) r)
    (h : wpList P ops Q rest (a.put o.dst (.int .i64 m)) w) : wpList P ops Q (o :: rest) a w := by
  refine wpList_plain h1 fun K hK => ?_
  have e : (if r < (if q < p then q else p) then r else (if q < p then q else p)) = m := by rw [hm]; split <;> split at * <;> omega
  unfold Oper.wp
  simp [execOp, ho, resolve, invoke, builtin, hx, hy, hz, Builtin.min_, Builtin.min2, Result.andThen, e]
  exact hK _ _ h

theorem xor_lin (a b k : BitVec 8) : (a ^^^ k) ^^^ (b ^^^ k) = a ^^^ b := by
  rw [BitVec.xor_assoc, BitVec.xor_comm b k, ← BitVec.xor_assoc k k b, BitVec.xor_self, BitVec.zero_xor]

set_option maxHeartbeats 1000000 in
theorem linear_pos (a0 : Option Addr) (ga oa gb ob : Nat) (l0 l1 l2 : List (BitVec 8)) (c0 c1 c2 : Nat) (h0 : l0.length ≤ 9223372036854775807) (h1 : l1.length ≤ 9223372036854775807) (h2 : l2.length ≤ 9223372036854775807) (hc1 : l1.length ≤ c1) (hc2 : l2.length ≤ c2) (w : World) (hT : Tab w) (B0 : Bs w a0 l0) (B1 : Bs w (some ⟨ga, oa, none⟩) l1) (B2 : Bs w (some ⟨gb, ob, none⟩) l2)
    (hq1 : ∀ i, i < l1.length → w.cell? ⟨ga, oa + i, none⟩ = some (.int .u8 (l1.getD i 0#8).toNat)) (hq2 : ∀ i, i < l2.length → w.cell? ⟨gb, ob + i, none⟩ = some (.int .u8 (l2.getD i 0#8).toNat)) :
    Calls Tryd.prog 6 #[.slice a0 l0.length c0, .slice (some ⟨ga, oa, none⟩) l1.length c1, .slice (some ⟨gb, ob, none⟩) l2.length c2] w fun e w' => e = .returned (.bool true) ∧ Below w.heap.size w w' := by
  obtain ⟨n1, hn1⟩ : ∃ n, n = l1.length := ⟨_, rfl⟩
  obtain ⟨n2, hn2⟩ : ∃ n, n = l2.length := ⟨_, rfl⟩
  obtain ⟨m, hm⟩ : ∃ m : Nat, m = min (min l1.length l2.length) 200 := ⟨_, rfl⟩
  have m3 : m ≤ 200 := by omega
  have mc1 : m ≤ c1 := by omega
  have mc2 : m ≤ c2 := by omega
  have mn1 : m ≤ n1 := by omega
  have mn2 : m ≤ n2 := by omega
  have em : (m : Int) = min (min (n1 : Int) (n2 : Int)) 200 := by omega
  have l1m : (l1.take m).length = m := by rw [List.length_take]; omega
  have l2m : (l2.take m).length = m := by rw [List.length_take]; omega
  have Hm' := Lib.hid hm
  have hmade := fun w' => made_any a0 l0 c0 h0 w'
  generalize hn0 : l0.length = n0 at *
  rw [← hn1] at h1 hc1 ⊢
  rw [← hn2] at h2 hc2 ⊢
  have Hm := Lib.hid hmade
  have B0' := Lib.hid B0
  have B1' := Lib.hid B1
  have B2' := Lib.hid B2
  have Em := Lib.hid em
  have L1m := Lib.hid l1m
  have L2m := Lib.hid l2m
  have N1 := Lib.hid hn1
  have N2 := Lib.hid hn2
  have Q1 := Lib.hid hq1
  have Q2 := Lib.hid hq2
  clear hq1 hq2
  clear hmade B0 B1 B2 hn1 hn2 hn0 hm em l1m l2m
  go_enter Tryd.func6, Tryd.ntmps6
  go_wp2_with fail
  refine (sanity_any w hT).mono ?_
  rintro e w1 ⟨rfl, hb1⟩
  go_wp2_with fail
  refine (Hm.out w1 (B0'.out.below hb1 (Nat.le_refl _))).mono ?_
  rintro e w2 ⟨⟨K, N, hK, hN, rfl⟩, hb2⟩
  have hb := hb1.trans (hb2.mono hb1.size)
  clear hb1 hb2
  have nK : (Tryd.prog.info? 25).map (·.size) = some (bcells K).size := by rw [size_bcells K, hK]; exact Tryd.n25
  have nN : (Tryd.prog.info? 26).map (·.size) = some (bcells N).size := by rw [size_bcells N, hN]; exact Tryd.n26
  obtain ⟨g6, e6⟩ : ∃ g, g = w2.heap.size := ⟨_, rfl⟩
  have r6 : Row ((w2.alloc (.cells (bcells K) 25)).alloc (.cells (bcells N) 26)) g6 25 (bcells K) := Row.alloc (Row.new' _ _ e6) _
  have r7 : Row ((w2.alloc (.cells (bcells K) 25)).alloc (.cells (bcells N) 26)) (g6 + 1) 26 (bcells N) := Row.new' _ _ (by simp [e6])
  have hb2 : Below w.heap.size w ((w2.alloc (.cells (bcells K) 25)).alloc (.cells (bcells N) 26)) := (hb.alloc hb.size _).alloc (by have := hb.size; simp; omega) _
  have E6 := Lib.hid e6
  clear e6 hb
  go_wp2_with (first | ((with_reducible show wpList _ _ _ (Oper.mk _ (Op.call _) _ _ _ _ :: _) _ _); refine wpList_min3 rfl (.tmp 21) (.tmp 23) (.const (.int .i64 200)) _ rfl rfl rfl rfl Em.out ?_) | ((with_reducible show wpList _ _ _ (Oper.mk _ (Op.alloc _) _ _ _ _ :: _) _ _); refine wpList_new2 rfl rfl rfl rfl 25 26 8 9 (.tmp 18) (.tmp 19) rfl rfl rfl rfl rfl rfl rfl rfl g6 (g6 + 1) E6.out (by rw [E6.out]) (bcells K) (bcells N) rfl rfl rfl rfl _ _ Tryd.z25 Tryd.z26 nK nN (by rw [size_bcells, size_bcells, hK]; rfl) (by rw [size_bcells, size_bcells, hN]; rfl) (one_bcells _) (one_bcells _) ?_))
  generalize hW : ((w2.alloc (.cells (bcells K) 25)).alloc (.cells (bcells N) 26)) = W at *
  clear hW
  have X1 : Hid (Calls Tryd.prog 11 #[.agg (bcells K), .agg (bcells N), .slice (some ⟨ga, oa, none⟩) m c1] W.drew fun e w' => ∃ g', e = .returned (.slice (some ⟨g', 0, none⟩) m m) ∧ Row w' g' 5 (bcells (xorL K N (l1.take m))) ∧ Below W.heap.size W.drew w') := Lib.hid (by
    have := xor_any K N hK hN (some ⟨ga, oa, none⟩) (l1.take m) c1 (by rw [L1m.out]; omega) W.drew (hT.below hb2.drew hT.lt) ((B1'.out.below hb2.drew (Nat.le_refl _)).take m)
    rw [L1m.out] at this
    exact this)
  have hS : (∃ t, Row W.drew g6 t (bcells K)) ∧ ∃ t, Row W.drew (g6 + 1) t (bcells N) := ⟨⟨_, r6.drew⟩, ⟨_, r7.drew⟩⟩
  refine wp_region_held (S := fun W' => (∃ t, Row W' g6 t (bcells K)) ∧ ∃ t, Row W' (g6 + 1) t (bcells N)) (by kernel_rfl) ?_
  refine take_arr 0 25 25 (.tmp 8) (g6) (bcells K) Tryd.underlying25 nK (fun _ h => h.1) rfl rfl rfl rfl rfl (by kernel_rfl) (by kernel_rfl) (by kernel_rfl) (fun _ _ _ h => h) hS ?_
  simp only [Act.put, List.setIfInBounds_toArray, List.set_cons_zero, List.set_cons_succ]
  refine take_arr 1 26 26 (.tmp 9) (g6 + 1) (bcells N) Tryd.underlying26 nN (fun _ h => h.2) rfl rfl rfl rfl rfl (by kernel_rfl) (by kernel_rfl) (by kernel_rfl) (fun _ _ _ h => h) hS ?_
  simp only [Act.put, List.setIfInBounds_toArray, List.set_cons_zero, List.set_cons_succ]
  refine take_move 2 27 (.tmp 1) (.slice (some ⟨ga, oa, none⟩) n1 c1) rfl rfl rfl rfl rfl (by kernel_rfl) (by kernel_rfl) (by kernel_rfl) (fun _ _ _ h => h) hS ?_
  simp only [Act.put, List.setIfInBounds_toArray, List.set_cons_zero, List.set_cons_succ]
  refine take_move 3 28 (.tmp 10) (.int .i64 (m : Int)) rfl rfl rfl rfl rfl (by kernel_rfl) (by kernel_rfl) (by kernel_rfl) (fun _ _ _ h => h) hS ?_
  simp only [Act.put, List.setIfInBounds_toArray, List.set_cons_zero, List.set_cons_succ]
  refine take_run 4 29 (.slice (some ⟨ga, oa, none⟩) m c1) rfl rfl rfl (fun W _ => exec_slice_hi W 22 5 (.tmp 27) (.tmp 28) rfl Tryd.underlying22 Tryd.n5 (some ⟨ga, oa, none⟩) n1 c1 m rfl rfl mc1) (by kernel_rfl) (by kernel_rfl) (by kernel_rfl) (fun _ _ _ h => h) hS ?_
  simp only [Act.put, List.setIfInBounds_toArray, List.set_cons_zero, List.set_cons_succ]
  refine wpAnyH_one (i := 5) (by kernel_rfl) rfl rfl (wp_call_ret rfl call11 X1.out (by simp [Act.eval]) (d := 30) rfl ?_)
  rintro e w3 ⟨gx, rfl, rx, hb3⟩
  have q6 : Row w3 g6 25 (bcells K) := r6.drew.below hb3 r6.lt
  have q7 : Row w3 (g6 + 1) 26 (bcells N) := r7.drew.below hb3 r7.lt
  have hS3 : (∃ t, Row w3 g6 t (bcells K)) ∧ ∃ t, Row w3 (g6 + 1) t (bcells N) := ⟨⟨_, q6⟩, ⟨_, q7⟩⟩
  refine ⟨_, rfl, hS3, ?_⟩
  simp only [Act.put, List.setIfInBounds_toArray, List.set_cons_zero, List.set_cons_succ]
  refine take_run 6 11 (.slice (some ⟨gx, 0, none⟩) m m) rfl rfl rfl (fun W _ => rfl) (by kernel_rfl) (by kernel_rfl) (by kernel_rfl) (fun _ _ _ h => h) hS3 ?_
  simp only [Act.put, List.setIfInBounds_toArray, List.set_cons_zero, List.set_cons_succ]
  refine wpAnyH_done (by kernel_rfl) ?_ _
  have hb4 : Below w.heap.size w w3 := hb2.trans (Below.mono (show Below W.heap.size W w3 from ⟨hb3.os, hb3.tape, hb3.output, hb3.size, hb3.block⟩) hb2.size)
  clear hS hS3 X1 hb3 r6 r7 hb2
  go_wp2_with fail
  have X2 : Hid (Calls Tryd.prog 11 #[.agg (bcells K), .agg (bcells N), .slice (some ⟨gb, ob, none⟩) m c2] w3.drew fun e w' => ∃ g', e = .returned (.slice (some ⟨g', 0, none⟩) m m) ∧ Row w' g' 5 (bcells (xorL K N (l2.take m))) ∧ Below w3.heap.size w3.drew w') := Lib.hid (by
    have := xor_any K N hK hN (some ⟨gb, ob, none⟩) (l2.take m) c2 (by rw [L2m.out]; omega) w3.drew (hT.below hb4.drew hT.lt) ((B2'.out.below hb4.drew (Nat.le_refl _)).take m)
    rw [L2m.out] at this
    exact this)
  have hS : (∃ t, Row w3.drew g6 t (bcells K)) ∧ ∃ t, Row w3.drew (g6 + 1) t (bcells N) := ⟨⟨_, q6.drew⟩, ⟨_, q7.drew⟩⟩
  refine wp_region_held (S := fun W' => (∃ t, Row W' g6 t (bcells K)) ∧ ∃ t, Row W' (g6 + 1) t (bcells N)) (by kernel_rfl) ?_
  refine take_arr 0 31 25 (.tmp 8) (g6) (bcells K) Tryd.underlying25 nK (fun _ h => h.1) rfl rfl rfl rfl rfl (by kernel_rfl) (by kernel_rfl) (by kernel_rfl) (fun _ _ _ h => h) hS ?_
  simp only [Act.put, List.setIfInBounds_toArray, List.set_cons_zero, List.set_cons_succ]
  refine take_arr 1 32 26 (.tmp 9) (g6 + 1) (bcells N) Tryd.underlying26 nN (fun _ h => h.2) rfl rfl rfl rfl rfl (by kernel_rfl) (by kernel_rfl) (by kernel_rfl) (fun _ _ _ h => h) hS ?_
  simp only [Act.put, List.setIfInBounds_toArray, List.set_cons_zero, List.set_cons_succ]
  refine take_move 2 33 (.tmp 2) (.slice (some ⟨gb, ob, none⟩) n2 c2) rfl rfl rfl rfl rfl (by kernel_rfl) (by kernel_rfl) (by kernel_rfl) (fun _ _ _ h => h) hS ?_
  simp only [Act.put, List.setIfInBounds_toArray, List.set_cons_zero, List.set_cons_succ]
  refine take_move 3 34 (.tmp 10) (.int .i64 (m : Int)) rfl rfl rfl rfl rfl (by kernel_rfl) (by kernel_rfl) (by kernel_rfl) (fun _ _ _ h => h) hS ?_
  simp only [Act.put, List.setIfInBounds_toArray, List.set_cons_zero, List.set_cons_succ]
  refine take_run 4 35 (.slice (some ⟨gb, ob, none⟩) m c2) rfl rfl rfl (fun W _ => exec_slice_hi W 22 5 (.tmp 33) (.tmp 34) rfl Tryd.underlying22 Tryd.n5 (some ⟨gb, ob, none⟩) n2 c2 m rfl rfl mc2) (by kernel_rfl) (by kernel_rfl) (by kernel_rfl) (fun _ _ _ h => h) hS ?_
  simp only [Act.put, List.setIfInBounds_toArray, List.set_cons_zero, List.set_cons_succ]
  refine wpAnyH_one (i := 5) (by kernel_rfl) rfl rfl (wp_call_ret rfl call11 X2.out (by simp [Act.eval]) (d := 36) rfl ?_)
  rintro e w4 ⟨gy, rfl, ry, hb5⟩
  have hS4 : (∃ t, Row w4 g6 t (bcells K)) ∧ ∃ t, Row w4 (g6 + 1) t (bcells N) := ⟨⟨_, q6.drew.below hb5 q6.lt⟩, ⟨_, q7.drew.below hb5 q7.lt⟩⟩
  refine ⟨_, rfl, hS4, ?_⟩
  simp only [Act.put, List.setIfInBounds_toArray, List.set_cons_zero, List.set_cons_succ]
  refine take_run 6 12 (.slice (some ⟨gy, 0, none⟩) m m) rfl rfl rfl (fun W _ => rfl) (by kernel_rfl) (by kernel_rfl) (by kernel_rfl) (fun _ _ _ h => h) hS4 ?_
  simp only [Act.put, List.setIfInBounds_toArray, List.set_cons_zero, List.set_cons_succ]
  refine wpAnyH_done (by kernel_rfl) ?_ _
  have rx' : Row w4 gx 5 (bcells (xorL K N (l1.take m))) := rx.drew.below hb5 rx.lt
  have hb6 : Below w.heap.size w w4 := hb4.trans (Below.mono (show Below w3.heap.size w3 w4 from ⟨hb5.os, hb5.tape, hb5.output, hb5.size, hb5.block⟩) hb4.size)
  clear hS hS4 X2 hb5 q6 q7 rx hb4
  go_wp2_with fail
  go_loopw [13] (fun i wr => ∃ k : Nat, k ≤ m ∧ i = .int .i64 k ∧ Row wr gx 5 (bcells (xorL K N (l1.take m))) ∧ Row wr gy 5 (bcells (xorL K N (l2.take m))) ∧ Below w.heap.size w wr) (fun i _ => m - (intOf i).toNat)
  case atStart => exact ⟨0, Nat.zero_le _, rfl, rx', ry, hb6⟩
  case round =>
    clear rx' ry hb6
    obtain ⟨k, hk, rfl, rx, ry, hb⟩ := hrel
    by_cases hkm : k < m
    · have k1 : k < l1.length := by rw [← N1.out]; omega
      have k2 : k < l2.length := by rw [← N2.out]; omega
      have x1 := (Q1.out k k1)
      have x2 := (Q2.out k k2)
      have ha := (hb.cell (p := ⟨ga, oa + k, none⟩) (block_lt_of_cell (a := ⟨ga, oa + k, none⟩) x1)).trans x1
      have hbb := (hb.cell (p := ⟨gb, ob + k, none⟩) (block_lt_of_cell (a := ⟨gb, ob + k, none⟩) x2)).trans x2
      have lx : (xorL K N (l1.take m)).length = m := by rw [length_xorL, L1m.out]
      have ly : (xorL K N (l2.take m)).length = m := by rw [length_xorL, L2m.out]
      have hx := (rx.cell k).trans (get_bcells _ k (by rw [lx]; exact hkm))
      have hy := (ry.cell k).trans (get_bcells _ k (by rw [ly]; exact hkm))
      rw [get_xorL _ _ _ _ (by rw [L1m.out]; exact hkm)] at hx
      rw [get_xorL _ _ _ _ (by rw [L2m.out]; exact hkm)] at hy
      have t1 : (l1.take m).getD k 0#8 = l1.getD k 0#8 := by simp [List.getD, List.getElem?_take, hkm]
      have t2 : (l2.take m).getD k 0#8 = l2.getD k 0#8 := by simp [List.getD, List.getElem?_take, hkm]
      rw [t1] at hx
      rw [t2] at hy
      have b1 := u8_xor_bv (l1.getD k 0#8 ^^^ ks K N k) (l2.getD k 0#8 ^^^ ks K N k)
      rw [xor_lin] at b1
      have b2 := u8_xor_bv (l1.getD k 0#8) (l2.getD k 0#8)
      generalize l1.getD k 0#8 ^^^ l2.getD k 0#8 = z at *
      generalize l1.getD k 0#8 ^^^ ks K N k = zx at *
      generalize l2.getD k 0#8 ^^^ ks K N k = zy at *
      generalize l1.getD k 0#8 = za at *
      generalize l2.getD k 0#8 = zb at *
      clear x1 x2 lx ly t1 t2 k1 k2
      have i1 : (k : Int) < (m : Int) := by omega
      have i2 : (k : Int) < (n1 : Int) := by omega
      have i3 : (k : Int) < (n2 : Int) := by omega
      have i0 : (0 : Int) ≤ (k : Int) := by omega
      go_wp2_with fail
      go_quiet (fail)
      go_wp2_with fail
      go_roundw
      case rel => exact ⟨k + 1, by omega, by go_num, rx.drewN _, ry.drewN _, below_drewN hb _⟩
      case measure => simp [intOf]; omega
    · go_wp2_with fail
      go_ret
      exact ⟨rfl, hb⟩

set_option maxHeartbeats 1000000 in
theorem linear_zero (a0 : Option Addr) (a1 a2 : Option Addr) (l0 l1 l2 : List (BitVec 8)) (c0 c1 c2 : Nat) (h0 : l0.length ≤ 9223372036854775807) (h1 : l1.length ≤ 9223372036854775807) (h2 : l2.length ≤ 9223372036854775807) (hc1 : l1.length ≤ c1) (hc2 : l2.length ≤ c2) (w : World) (hT : Tab w) (B0 : Bs w a0 l0) (B1 : Bs w a1 l1) (B2 : Bs w a2 l2)
    (hz : min (min l1.length l2.length) 200 = 0) :
    Calls Tryd.prog 6 #[.slice a0 l0.length c0, .slice a1 l1.length c1, .slice a2 l2.length c2] w fun e w' => e = .returned (.bool true) ∧ Below w.heap.size w w' := by
  obtain ⟨n1, hn1⟩ : ∃ n, n = l1.length := ⟨_, rfl⟩
  obtain ⟨n2, hn2⟩ : ∃ n, n = l2.length := ⟨_, rfl⟩
  obtain ⟨m, hm⟩ : ∃ m : Nat, m = min (min l1.length l2.length) 200 := ⟨_, rfl⟩
  have m3 : m ≤ 200 := by omega
  have mc1 : m ≤ c1 := by omega
  have mc2 : m ≤ c2 := by omega
  have mn1 : m ≤ n1 := by omega
  have mn2 : m ≤ n2 := by omega
  have em : (m : Int) = min (min (n1 : Int) (n2 : Int)) 200 := by omega
  have l1m : (l1.take m).length = m := by rw [List.length_take]; omega
  have l2m : (l2.take m).length = m := by rw [List.length_take]; omega
  have m0 : m ≤ 0 := by omega
  have Hm' := Lib.hid hm
  clear hz
  have hmade := fun w' => made_any a0 l0 c0 h0 w'
  generalize hn0 : l0.length = n0 at *
  rw [← hn1] at h1 hc1 ⊢
  rw [← hn2] at h2 hc2 ⊢
  have Hm := Lib.hid hmade
  have B0' := Lib.hid B0
  have B1' := Lib.hid B1
  have B2' := Lib.hid B2
  have Em := Lib.hid em
  have L1m := Lib.hid l1m
  have L2m := Lib.hid l2m
  have N1 := Lib.hid hn1
  have N2 := Lib.hid hn2
  clear hmade B0 B1 B2 hn1 hn2 hn0 hm em l1m l2m
  go_enter Tryd.func6, Tryd.ntmps6
  go_wp2_with fail
  refine (sanity_any w hT).mono ?_
  rintro e w1 ⟨rfl, hb1⟩
  go_wp2_with fail
  refine (Hm.out w1 (B0'.out.below hb1 (Nat.le_refl _))).mono ?_
  rintro e w2 ⟨⟨K, N, hK, hN, rfl⟩, hb2⟩
  have hb := hb1.trans (hb2.mono hb1.size)
  clear hb1 hb2
  have nK : (Tryd.prog.info? 25).map (·.size) = some (bcells K).size := by rw [size_bcells K, hK]; exact Tryd.n25
  have nN : (Tryd.prog.info? 26).map (·.size) = some (bcells N).size := by rw [size_bcells N, hN]; exact Tryd.n26
  obtain ⟨g6, e6⟩ : ∃ g, g = w2.heap.size := ⟨_, rfl⟩
  have r6 : Row ((w2.alloc (.cells (bcells K) 25)).alloc (.cells (bcells N) 26)) g6 25 (bcells K) := Row.alloc (Row.new' _ _ e6) _
  have r7 : Row ((w2.alloc (.cells (bcells K) 25)).alloc (.cells (bcells N) 26)) (g6 + 1) 26 (bcells N) := Row.new' _ _ (by simp [e6])
  have hb2 : Below w.heap.size w ((w2.alloc (.cells (bcells K) 25)).alloc (.cells (bcells N) 26)) := (hb.alloc hb.size _).alloc (by have := hb.size; simp; omega) _
  have E6 := Lib.hid e6
  clear e6 hb
  go_wp2_with (first | ((with_reducible show wpList _ _ _ (Oper.mk _ (Op.call _) _ _ _ _ :: _) _ _); refine wpList_min3 rfl (.tmp 21) (.tmp 23) (.const (.int .i64 200)) _ rfl rfl rfl rfl Em.out ?_) | ((with_reducible show wpList _ _ _ (Oper.mk _ (Op.alloc _) _ _ _ _ :: _) _ _); refine wpList_new2 rfl rfl rfl rfl 25 26 8 9 (.tmp 18) (.tmp 19) rfl rfl rfl rfl rfl rfl rfl rfl g6 (g6 + 1) E6.out (by rw [E6.out]) (bcells K) (bcells N) rfl rfl rfl rfl _ _ Tryd.z25 Tryd.z26 nK nN (by rw [size_bcells, size_bcells, hK]; rfl) (by rw [size_bcells, size_bcells, hN]; rfl) (one_bcells _) (one_bcells _) ?_))
  generalize hW : ((w2.alloc (.cells (bcells K) 25)).alloc (.cells (bcells N) 26)) = W at *
  clear hW
  have X1 : Hid (Calls Tryd.prog 11 #[.agg (bcells K), .agg (bcells N), .slice (a1) m c1] W.drew fun e w' => ∃ g', e = .returned (.slice (some ⟨g', 0, none⟩) m m) ∧ Row w' g' 5 (bcells (xorL K N (l1.take m))) ∧ Below W.heap.size W.drew w') := Lib.hid (by
    have := xor_any K N hK hN (a1) (l1.take m) c1 (by rw [L1m.out]; omega) W.drew (hT.below hb2.drew hT.lt) ((B1'.out.below hb2.drew (Nat.le_refl _)).take m)
    rw [L1m.out] at this
    exact this)
  have hS : (∃ t, Row W.drew g6 t (bcells K)) ∧ ∃ t, Row W.drew (g6 + 1) t (bcells N) := ⟨⟨_, r6.drew⟩, ⟨_, r7.drew⟩⟩
  refine wp_region_held (S := fun W' => (∃ t, Row W' g6 t (bcells K)) ∧ ∃ t, Row W' (g6 + 1) t (bcells N)) (by kernel_rfl) ?_
  refine take_arr 0 25 25 (.tmp 8) (g6) (bcells K) Tryd.underlying25 nK (fun _ h => h.1) rfl rfl rfl rfl rfl (by kernel_rfl) (by kernel_rfl) (by kernel_rfl) (fun _ _ _ h => h) hS ?_
  simp only [Act.put, List.setIfInBounds_toArray, List.set_cons_zero, List.set_cons_succ]
  refine take_arr 1 26 26 (.tmp 9) (g6 + 1) (bcells N) Tryd.underlying26 nN (fun _ h => h.2) rfl rfl rfl rfl rfl (by kernel_rfl) (by kernel_rfl) (by kernel_rfl) (fun _ _ _ h => h) hS ?_
  simp only [Act.put, List.setIfInBounds_toArray, List.set_cons_zero, List.set_cons_succ]
  refine take_move 2 27 (.tmp 1) (.slice (a1) n1 c1) rfl rfl rfl rfl rfl (by kernel_rfl) (by kernel_rfl) (by kernel_rfl) (fun _ _ _ h => h) hS ?_
  simp only [Act.put, List.setIfInBounds_toArray, List.set_cons_zero, List.set_cons_succ]
  refine take_move 3 28 (.tmp 10) (.int .i64 (m : Int)) rfl rfl rfl rfl rfl (by kernel_rfl) (by kernel_rfl) (by kernel_rfl) (fun _ _ _ h => h) hS ?_
  simp only [Act.put, List.setIfInBounds_toArray, List.set_cons_zero, List.set_cons_succ]
  refine take_run 4 29 (.slice (a1) m c1) rfl rfl rfl (fun W _ => exec_slice_hi W 22 5 (.tmp 27) (.tmp 28) rfl Tryd.underlying22 Tryd.n5 (a1) n1 c1 m rfl rfl mc1) (by kernel_rfl) (by kernel_rfl) (by kernel_rfl) (fun _ _ _ h => h) hS ?_
  simp only [Act.put, List.setIfInBounds_toArray, List.set_cons_zero, List.set_cons_succ]
  refine wpAnyH_one (i := 5) (by kernel_rfl) rfl rfl (wp_call_ret rfl call11 X1.out (by simp [Act.eval]) (d := 30) rfl ?_)
  rintro e w3 ⟨gx, rfl, rx, hb3⟩
  have q6 : Row w3 g6 25 (bcells K) := r6.drew.below hb3 r6.lt
  have q7 : Row w3 (g6 + 1) 26 (bcells N) := r7.drew.below hb3 r7.lt
  have hS3 : (∃ t, Row w3 g6 t (bcells K)) ∧ ∃ t, Row w3 (g6 + 1) t (bcells N) := ⟨⟨_, q6⟩, ⟨_, q7⟩⟩
  refine ⟨_, rfl, hS3, ?_⟩
  simp only [Act.put, List.setIfInBounds_toArray, List.set_cons_zero, List.set_cons_succ]
  refine take_run 6 11 (.slice (some ⟨gx, 0, none⟩) m m) rfl rfl rfl (fun W _ => rfl) (by kernel_rfl) (by kernel_rfl) (by kernel_rfl) (fun _ _ _ h => h) hS3 ?_
  simp only [Act.put, List.setIfInBounds_toArray, List.set_cons_zero, List.set_cons_succ]
  refine wpAnyH_done (by kernel_rfl) ?_ _
  have hb4 : Below w.heap.size w w3 := hb2.trans (Below.mono (show Below W.heap.size W w3 from ⟨hb3.os, hb3.tape, hb3.output, hb3.size, hb3.block⟩) hb2.size)
  clear hS hS3 X1 hb3 r6 r7 hb2
  go_wp2_with fail
  have X2 : Hid (Calls Tryd.prog 11 #[.agg (bcells K), .agg (bcells N), .slice (a2) m c2] w3.drew fun e w' => ∃ g', e = .returned (.slice (some ⟨g', 0, none⟩) m m) ∧ Row w' g' 5 (bcells (xorL K N (l2.take m))) ∧ Below w3.heap.size w3.drew w') := Lib.hid (by
    have := xor_any K N hK hN (a2) (l2.take m) c2 (by rw [L2m.out]; omega) w3.drew (hT.below hb4.drew hT.lt) ((B2'.out.below hb4.drew (Nat.le_refl _)).take m)
    rw [L2m.out] at this
    exact this)
  have hS : (∃ t, Row w3.drew g6 t (bcells K)) ∧ ∃ t, Row w3.drew (g6 + 1) t (bcells N) := ⟨⟨_, q6.drew⟩, ⟨_, q7.drew⟩⟩
  refine wp_region_held (S := fun W' => (∃ t, Row W' g6 t (bcells K)) ∧ ∃ t, Row W' (g6 + 1) t (bcells N)) (by kernel_rfl) ?_
  refine take_arr 0 31 25 (.tmp 8) (g6) (bcells K) Tryd.underlying25 nK (fun _ h => h.1) rfl rfl rfl rfl rfl (by kernel_rfl) (by kernel_rfl) (by kernel_rfl) (fun _ _ _ h => h) hS ?_
  simp only [Act.put, List.setIfInBounds_toArray, List.set_cons_zero, List.set_cons_succ]
  refine take_arr 1 32 26 (.tmp 9) (g6 + 1) (bcells N) Tryd.underlying26 nN (fun _ h => h.2) rfl rfl rfl rfl rfl (by kernel_rfl) (by kernel_rfl) (by kernel_rfl) (fun _ _ _ h => h) hS ?_
  simp only [Act.put, List.setIfInBounds_toArray, List.set_cons_zero, List.set_cons_succ]
  refine take_move 2 33 (.tmp 2) (.slice (a2) n2 c2) rfl rfl rfl rfl rfl (by kernel_rfl) (by kernel_rfl) (by kernel_rfl) (fun _ _ _ h => h) hS ?_
  simp only [Act.put, List.setIfInBounds_toArray, List.set_cons_zero, List.set_cons_succ]
  refine take_move 3 34 (.tmp 10) (.int .i64 (m : Int)) rfl rfl rfl rfl rfl (by kernel_rfl) (by kernel_rfl) (by kernel_rfl) (fun _ _ _ h => h) hS ?_
  simp only [Act.put, List.setIfInBounds_toArray, List.set_cons_zero, List.set_cons_succ]
  refine take_run 4 35 (.slice (a2) m c2) rfl rfl rfl (fun W _ => exec_slice_hi W 22 5 (.tmp 33) (.tmp 34) rfl Tryd.underlying22 Tryd.n5 (a2) n2 c2 m rfl rfl mc2) (by kernel_rfl) (by kernel_rfl) (by kernel_rfl) (fun _ _ _ h => h) hS ?_
  simp only [Act.put, List.setIfInBounds_toArray, List.set_cons_zero, List.set_cons_succ]
  refine wpAnyH_one (i := 5) (by kernel_rfl) rfl rfl (wp_call_ret rfl call11 X2.out (by simp [Act.eval]) (d := 36) rfl ?_)
  rintro e w4 ⟨gy, rfl, ry, hb5⟩
  have hS4 : (∃ t, Row w4 g6 t (bcells K)) ∧ ∃ t, Row w4 (g6 + 1) t (bcells N) := ⟨⟨_, q6.drew.below hb5 q6.lt⟩, ⟨_, q7.drew.below hb5 q7.lt⟩⟩
  refine ⟨_, rfl, hS4, ?_⟩
  simp only [Act.put, List.setIfInBounds_toArray, List.set_cons_zero, List.set_cons_succ]
  refine take_run 6 12 (.slice (some ⟨gy, 0, none⟩) m m) rfl rfl rfl (fun W _ => rfl) (by kernel_rfl) (by kernel_rfl) (by kernel_rfl) (fun _ _ _ h => h) hS4 ?_
  simp only [Act.put, List.setIfInBounds_toArray, List.set_cons_zero, List.set_cons_succ]
  refine wpAnyH_done (by kernel_rfl) ?_ _
  have rx' : Row w4 gx 5 (bcells (xorL K N (l1.take m))) := rx.drew.below hb5 rx.lt
  have hb6 : Below w.heap.size w w4 := hb4.trans (Below.mono (show Below w3.heap.size w3 w4 from ⟨hb5.os, hb5.tape, hb5.output, hb5.size, hb5.block⟩) hb4.size)
  clear hS hS4 X2 hb5 q6 q7 rx hb4
  go_wp2_with fail
  go_loopw [13] (fun i wr => ∃ k : Nat, k ≤ m ∧ i = .int .i64 k ∧ Below w.heap.size w wr) (fun i _ => m - (intOf i).toNat)
  case atStart => exact ⟨0, Nat.zero_le _, rfl, hb6⟩
  case round =>
    clear rx' ry hb6
    obtain ⟨k, hk, rfl, hb⟩ := hrel
    go_wp2_with fail
    go_ret
    exact ⟨rfl, hb⟩

theorem linear_walk (a0 a1 a2 : Option Addr) (l0 l1 l2 : List (BitVec 8)) (c0 c1 c2 : Nat) (h0 : l0.length ≤ 9223372036854775807) (h1 : l1.length ≤ 9223372036854775807) (h2 : l2.length ≤ 9223372036854775807) (hc1 : l1.length ≤ c1) (hc2 : l2.length ≤ c2) (w : World) (hT : Tab w) (B0 : Bs w a0 l0) (B1 : Bs w a1 l1) (B2 : Bs w a2 l2) :
    Calls Tryd.prog 6 #[.slice a0 l0.length c0, .slice a1 l1.length c1, .slice a2 l2.length c2] w fun e w' => e = .returned (.bool true) ∧ Below w.heap.size w w' := by
  have B1' := B1
  have B2' := B2
  rcases B1 with h | ⟨ga, oa, ea, hq1⟩
  · exact linear_zero a0 a1 a2 l0 l1 l2 c0 c1 c2 h0 h1 h2 hc1 hc2 w hT B0 B1' B2' (by rw [h]; simp)
  · rcases B2 with h | ⟨gb, ob, eb, hq2⟩
    · exact linear_zero a0 a1 a2 l0 l1 l2 c0 c1 c2 h0 h1 h2 hc1 hc2 w hT B0 B1' B2' (by rw [h]; simp)
    · subst ea
      subst eb
      exact linear_pos a0 ga oa gb ob l0 l1 l2 c0 c1 c2 h0 h1 h2 hc1 hc2 w hT B0 B1' B2' hq1 hq2
end Go.Proofs.YtnooklfhpjfbmaaDoor
