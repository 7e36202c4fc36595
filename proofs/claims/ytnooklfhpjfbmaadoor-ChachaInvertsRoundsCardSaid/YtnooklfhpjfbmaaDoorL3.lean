/- The law ChachaBlocks: its walk. -/
import Derived.Test.YtnooklfhpjfbmaaDoorL2
set_option linter.all false
namespace Go.Proofs.YtnooklfhpjfbmaaDoor
open Go.RowKit Go.Fen
set_option linter.unusedVariables false
set_option maxHeartbeats 400000

theorem get_zeros (K N : List (BitVec 8)) (n i : Nat) (hi : i < n) : (xorL K N (List.replicate n 0#8)).getD i 0#8 = ks K N i := by
  rw [get_xorL _ _ _ _ (by simp; exact hi)]
  simp [List.getD, hi]

theorem exec_make_row {P : Program} {a : Act} {o : Oper} (w : World) (ty e : TypeId) (z : Value) (bytes : Nat) (x : Operand) (ho : o.op = .makeSlice ty x x) (ht : P.underlying ty = some (.slice e)) (hinfo : (P.info? e).map (fun i => (i.zero, i.size, i.bytes)) = some (some z, 1, bytes)) (hz1 : z.cells = #[z])
    (n : Nat) (hx : a.eval x = .int .i64 (n : Int)) (hb : bytes * n ≤ 281474976710656) (h63 : n ≤ 9223372036854775807) (g : Nat) (hg : g = w.heap.size) (w' : World) (hw : w' = w.alloc (.cells (madeCells #[z] n) e)) :
    (execOp a.eval o).run P w = .ok (.value (.slice (some ⟨g, 0, none⟩) n n)) w' := by
  subst hg
  subst hw
  unfold execOp
  simp only [ho, hx, Sem.run_bind, run_make_row' ty e z bytes ht hinfo hz1 .i64 .i64 n hb h63]
  rfl

theorem exec_conv_u16 (W : World) {a : Act} {o : Oper} (x : Operand) (ho : o.op = .convert 31 3 x) (n : Int) (h0 : 0 ≤ n) (h1 : n ≤ 65535) (hx : a.eval x = .int .u16 n) : (execOp a.eval o).run Tryd.prog W = .ok (.value (.int .i64 n)) W := by
  have e : IntKind.i64.wrap n = n := by
    have hb : IntKind.i64.bits = 64 := rfl
    have hs : IntKind.i64.signed = true := rfl
    simp [IntKind.wrap, hb, hs]
    omega
  have h2 : Tryd.prog.intKind 3 = .i64 := by kernel_rfl
  have h3 : (Tryd.prog.underlying 31).isSome = true := by kernel_rfl
  unfold execOp
  simp only [ho, hx, Sem.run_bind]
  rw [run_convert_int W 31 3 .u16 n h3 (by rw [h2]; exact Tryd.underlying3), h2, e]
  rfl
theorem exec_rem_321 (W : World) {a : Act} {o : Oper} (x : Operand) (ho : o.op = .binOp .rem 3 x (.const (.int .i64 321)) 3) (n m : Int) (h0 : 0 ≤ n) (h1 : n ≤ 65535) (hm : n % 321 = m) (hx : a.eval x = .int .i64 n) : (execOp a.eval o).run Tryd.prog W = .ok (.value (.int .i64 m)) W := by
  unfold execOp
  have h2 : (isAgg 3).run Tryd.prog W = .ok false W := by kernel_rfl
  have e : n.tmod 321 = m := by rw [Int.tmod_eq_emod_of_nonneg h0]; exact hm
  have hc : a.eval (.const (.int .i64 321)) = .int .i64 321 := rfl
  simp only [ho, hx, hc, Sem.run_bind]
  simp [binOp, eqGuard, Op.intDiv, e]

set_option maxHeartbeats 1000000 in
theorem blocks_walk (a0 : Option Addr) (l0 : List (BitVec 8)) (c0 : Nat) (nv : Int) (hn0' : 0 ≤ nv) (hn1' : nv ≤ 65535) (h0 : l0.length ≤ 9223372036854775807) (w : World) (hT : Tab w) (B0 : Bs w a0 l0) :
    Calls Tryd.prog 5 #[.slice a0 l0.length c0, .int .u16 nv] w fun e w' => e = .returned (.bool true) ∧ Below w.heap.size w w' := by
  have hmade := fun w' => made_any a0 l0 c0 h0 w'
  obtain ⟨p, hp⟩ : ∃ p : Nat, (p : Int) = nv % 321 := ⟨(nv % 321).toNat, by omega⟩
  have hpm : p ≤ 320 := by omega
  have hp' : nv % 321 = (p : Int) := hp.symm
  generalize hn0 : l0.length = n0 at *
  have Hm := Lib.hid hmade
  have B0' := Lib.hid B0
  have H0 := Lib.hid h0
  clear hmade B0 hn0 hp h0
  go_enter Tryd.func5, Tryd.ntmps5
  go_wp2_with fail
  refine (sanity_any w hT).mono ?_
  rintro e w1 ⟨rfl, hb1⟩
  go_wp2_with fail
  refine (Hm.out w1 (B0'.out.below hb1 (Nat.le_refl _))).mono ?_
  rintro e w2 ⟨⟨K, N, hK, hN, rfl⟩, hb2⟩
  have hb := hb1.trans (hb2.mono hb1.size)
  clear hb1 hb2
  have nK : (Tryd.prog.info? 25).map (·.size) = some (bcells K).size := by rw [size_bcells K, hK]; exact Tryd.n25
  have nN : (Tryd.prog.info? 26).map (·.size) = some (bcells N).size := by rw [size_bcells N, hN]; exact Tryd.n26
  obtain ⟨g6, e6⟩ : ∃ g, g = w2.heap.size := ⟨_, rfl⟩
  have r6 : Row ((w2.alloc (.cells (bcells K) 25)).alloc (.cells (bcells N) 26)) g6 25 (bcells K) := Row.alloc (Row.new' _ _ e6) _
  have r7 : Row ((w2.alloc (.cells (bcells K) 25)).alloc (.cells (bcells N) 26)) (g6 + 1) 26 (bcells N) := Row.new' _ _ (by simp [e6])
  have hb2 : Below w.heap.size w ((w2.alloc (.cells (bcells K) 25)).alloc (.cells (bcells N) 26)) := (hb.alloc hb.size _).alloc (by have := hb.size; simp; omega) _
  have E6 := Lib.hid e6
  clear e6 hb
  go_wp2_with (first | ((with_reducible show wpList _ _ _ (Oper.mk _ (Op.alloc _) _ _ _ _ :: _) _ _); refine wpList_new2 rfl rfl rfl rfl 25 26 6 7 (.tmp 15) (.tmp 16) rfl rfl rfl rfl rfl rfl rfl rfl g6 (g6 + 1) E6.out (by rw [E6.out]) (bcells K) (bcells N) rfl rfl rfl rfl _ _ Tryd.z25 Tryd.z26 nK nN (by rw [size_bcells, size_bcells, hK]; rfl) (by rw [size_bcells, size_bcells, hN]; rfl) (one_bcells _) (one_bcells _) ?_))
  generalize hW : ((w2.alloc (.cells (bcells K) 25)).alloc (.cells (bcells N) 26)) = W at *
  clear hW
  have hS : (∃ t, Row W.drew g6 t (bcells K)) ∧ ∃ t, Row W.drew (g6 + 1) t (bcells N) := ⟨⟨_, r6.drew⟩, ⟨_, r7.drew⟩⟩
  obtain ⟨gm, em⟩ : ∃ g, g = W.drew.heap.size := ⟨_, rfl⟩
  obtain ⟨Wm, hWm⟩ : ∃ Wm, Wm = W.drew.alloc (.cells (bcells (List.replicate p 0#8)) 5) := ⟨_, rfl⟩
  have hbW : Below w.heap.size w W.drew := hb2.drew
  have hbm : Below w.heap.size w Wm := by rw [hWm]; exact hbW.alloc hbW.size _
  have rm : Row Wm gm 5 (bcells (List.replicate p 0#8)) := by rw [hWm]; exact Row.new' _ _ em
  have p6 : Row Wm g6 25 (bcells K) := by rw [hWm]; exact r6.drew.alloc _
  have p7 : Row Wm (g6 + 1) 26 (bcells N) := by rw [hWm]; exact r7.drew.alloc _
  have X1 : Hid (Calls Tryd.prog 11 #[.agg (bcells K), .agg (bcells N), .slice (some ⟨gm, 0, none⟩) p p] Wm fun e w' => ∃ g', e = .returned (.slice (some ⟨g', 0, none⟩) p p) ∧ Row w' g' 5 (bcells (xorL K N (List.replicate p 0#8))) ∧ Below Wm.heap.size Wm w') := Lib.hid (by
    have := xor_any K N hK hN (some ⟨gm, 0, none⟩) (List.replicate p 0#8) p (by simp; omega) Wm (hT.below hbm hT.lt) (Bs.of_row rm)
    rw [List.length_replicate] at this
    exact this)
  refine wp_region_held (S := fun W' => (∃ t, Row W' g6 t (bcells K)) ∧ ∃ t, Row W' (g6 + 1) t (bcells N)) (by kernel_rfl) ?_
  refine take_arr 0 17 25 (.tmp 6) (g6) (bcells K) Tryd.underlying25 nK (fun _ h => h.1) rfl rfl rfl rfl rfl (by kernel_rfl) (by kernel_rfl) (by kernel_rfl) (fun _ _ _ h => h) hS ?_
  simp only [Act.put, List.setIfInBounds_toArray, List.set_cons_zero, List.set_cons_succ]
  refine take_arr 1 18 26 (.tmp 7) (g6 + 1) (bcells N) Tryd.underlying26 nN (fun _ h => h.2) rfl rfl rfl rfl rfl (by kernel_rfl) (by kernel_rfl) (by kernel_rfl) (fun _ _ _ h => h) hS ?_
  simp only [Act.put, List.setIfInBounds_toArray, List.set_cons_zero, List.set_cons_succ]
  refine take_move 2 19 (.tmp 1) (.int .u16 nv) rfl rfl rfl rfl rfl (by kernel_rfl) (by kernel_rfl) (by kernel_rfl) (fun _ _ _ h => h) hS ?_
  simp only [Act.put, List.setIfInBounds_toArray, List.set_cons_zero, List.set_cons_succ]
  refine take_run 3 20 (.int .i64 nv) rfl rfl rfl (fun W _ => exec_conv_u16 W (.tmp 19) rfl nv hn0' hn1' rfl) (by kernel_rfl) (by kernel_rfl) (by kernel_rfl) (fun _ _ _ h => h) hS ?_
  simp only [Act.put, List.setIfInBounds_toArray, List.set_cons_zero, List.set_cons_succ]
  refine take_run 4 21 (.int .i64 (p : Int)) rfl rfl rfl (fun W _ => exec_rem_321 W (.tmp 20) rfl nv p hn0' hn1' hp' rfl) (by kernel_rfl) (by kernel_rfl) (by kernel_rfl) (fun _ _ _ h => h) hS ?_
  simp only [Act.put, List.setIfInBounds_toArray, List.set_cons_zero, List.set_cons_succ]
  refine wpAnyH_one (i := 5) (by kernel_rfl) rfl rfl (wp_value (d := 22) rfl (exec_make_row _ 22 5 (.int .u8 0) 1 (.tmp 21) rfl Tryd.underlying22 Tryd.info5 rfl p rfl (by omega) (by omega) gm em Wm (by rw [madeB]; exact hWm)) ?_)
  have hSm : (∃ t, Row Wm g6 t (bcells K)) ∧ ∃ t, Row Wm (g6 + 1) t (bcells N) := ⟨⟨_, p6⟩, ⟨_, p7⟩⟩
  refine ⟨hSm, ?_⟩
  simp only [Act.put, List.setIfInBounds_toArray, List.set_cons_zero, List.set_cons_succ]
  refine wpAnyH_one (i := 6) (by kernel_rfl) rfl rfl (wp_call_ret rfl call11 X1.out (by simp [Act.eval]) (d := 23) rfl ?_)
  rintro e w3 ⟨gx, rfl, rx, hb3⟩
  have q6 : Row w3 g6 25 (bcells K) := p6.below hb3 p6.lt
  have q7 : Row w3 (g6 + 1) 26 (bcells N) := p7.below hb3 p7.lt
  have hS3 : (∃ t, Row w3 g6 t (bcells K)) ∧ ∃ t, Row w3 (g6 + 1) t (bcells N) := ⟨⟨_, q6⟩, ⟨_, q7⟩⟩
  refine ⟨_, rfl, hS3, ?_⟩
  simp only [Act.put, List.setIfInBounds_toArray, List.set_cons_zero, List.set_cons_succ]
  refine take_run 7 8 (.slice (some ⟨gx, 0, none⟩) p p) rfl rfl rfl (fun W _ => rfl) (by kernel_rfl) (by kernel_rfl) (by kernel_rfl) (fun _ _ _ h => h) hS3 ?_
  simp only [Act.put, List.setIfInBounds_toArray, List.set_cons_zero, List.set_cons_succ]
  refine wpAnyH_done (by kernel_rfl) ?_ _
  have hb4 : Below w.heap.size w w3 := hbm.trans (hb3.mono hbm.size)
  clear hS hS3 hSm X1 hb3 r6 r7 hb2 p6 p7 rm hbm hbW em hWm
  go_wp2_with fail
  try rw [hp']
  clear hp'
  go_loopw [9] (fun i wr => ∃ k : Nat, k ≤ p ∧ i = .int .i64 k ∧ Row wr gx 5 (bcells (xorL K N (List.replicate p 0#8))) ∧ Row wr g6 25 (bcells K) ∧ Row wr (g6 + 1) 26 (bcells N) ∧ Below w.heap.size w wr) (fun i _ => p - (intOf i).toNat)
  case atStart => exact ⟨0, Nat.zero_le _, rfl, rx, q6, q7, hb4⟩
  case round =>
    clear rx q6 q7 hb4
    obtain ⟨k, hk, rfl, rx, q6, q7, hb⟩ := hrel
    by_cases hkm : k < p
    · have lx : (xorL K N (List.replicate p 0#8)).length = p := by rw [length_xorL, List.length_replicate]
      have hx := (fun w' (r : Row w' gx 5 (bcells (xorL K N (List.replicate p 0#8)))) => (r.cell k).trans (get_bcells _ k (by rw [lx]; exact hkm)))
      rw [get_zeros K N p k hkm] at hx
      have ek : (((BitVec.ofNat 32 (k / 64)).toNat : Nat) : Int) = (k : Int) / 64 := by
        rw [BitVec.toNat_ofNat, Nat.mod_eq_of_lt (by omega)]; omega
      have hcall : Hid (Calls Tryd.prog 12 #[.agg (bcells K), .agg (bcells N), .int .u32 ((k : Int) / 64)] wr fun e w' => e = .returned (.agg (bcells (blockL K N (BitVec.ofNat 32 (k / 64))))) ∧ Below wr.heap.size wr w') :=
        Lib.hid (ek ▸ block_any K N hK hN (BitVec.ofNat 32 (k / 64)) wr (hT.below hb hT.lt))
      have lb := length_blockL K N (BitVec.ofNat 32 (k / 64))
      have hks : Hid ((blockL K N (BitVec.ofNat 32 (k / 64))).getD (k % 64) 0#8 = ks K N k) := Lib.hid rfl
      obtain ⟨bk, hbk⟩ : ∃ b, b = blockL K N (BitVec.ofNat 32 (k / 64)) := ⟨_, rfl⟩
      rw [← hbk] at hcall lb hks
      clear hbk ek
      have nb : (Tryd.prog.info? 33).map (·.size) = some (bcells bk).size := by rw [size_bcells, lb]; exact Tryd.n33
      have Hlb := Lib.hid lb
      have Hx := Lib.hid hx
      clear lb lx hx
      have i0 : (0 : Int) ≤ (k : Int) := by omega
      have i1 : (k : Int) < (p : Int) := by omega
      have i2 : (k : Int) / 64 ≤ 5 := by omega
      go_wp2_with (first | ((with_reducible show wpList _ _ _ (Oper.mk _ (Op.load _ _) _ _ _ _ :: _) _ _); first | (refine wpList_load_arr rfl 25 (.tmp 6) rfl g6 25 (bcells K) Tryd.underlying25 nK rfl q6 ?_) | (refine wpList_load_arr rfl 26 (.tmp 7) rfl (g6 + 1) 26 (bcells N) Tryd.underlying26 nN rfl q7 ?_)))
      refine hcall.out.mono ?_
      rintro e w4 ⟨rfl, hb5⟩
      obtain ⟨gb, eb⟩ : ∃ g, g = w4.heap.size := ⟨_, rfl⟩
      have hb6 := hb.trans (hb5.mono hb.size)
      have rx' : Row (w4.alloc (.cells (bcells bk) 33)) gx 5 (bcells (xorL K N (List.replicate p 0#8))) := (rx.below hb5 rx.lt).alloc _
      have q6' : Row (w4.alloc (.cells (bcells bk) 33)) g6 25 (bcells K) := (q6.below hb5 q6.lt).alloc _
      have q7' : Row (w4.alloc (.cells (bcells bk) 33)) (g6 + 1) 26 (bcells N) := (q7.below hb5 q7.lt).alloc _
      have rb : Row (w4.alloc (.cells (bcells bk) 33)) gb 33 (bcells bk) := Row.new' _ _ eb
      have hb7 : Below w.heap.size w (w4.alloc (.cells (bcells bk) 33)) := hb6.alloc hb6.size _
      have EB := Lib.hid eb
      clear eb hb6 hb5 hb q6 q7 rx
      go_wp2_with (first | ((with_reducible show wpList _ _ _ (Oper.mk _ (Op.alloc _) _ _ _ _ :: _) _ _); refine wpList_new_row rfl rfl 33 10 (.tmp 41) rfl rfl rfl rfl gb EB.out (bcells bk) rfl rfl _ Tryd.z33 nb (by rw [size_bcells, size_bcells, Hlb.out]; rfl) (one_bcells _) ?_))
      generalize hW5 : w4.alloc (.cells (bcells bk) 33) = w5 at *
      clear hW5
      have cx := Hx.out w5 rx'
      obtain ⟨r, hr⟩ : ∃ r : Nat, r = k % 64 := ⟨_, rfl⟩
      have cb := (rb.cell r).trans (get_bcells _ r (by rw [Hlb.out]; omega))
      have hks' := hks.out
      rw [← hr] at hks'
      rw [hks'] at cb
      have er : (k : Int) % 64 = (r : Int) := by omega
      have et : (k : Int).tmod 64 = (r : Int) := by rw [Int.tmod_eq_emod_of_nonneg (by omega)]; exact er
      have r64 : r < 64 := by omega
      have r64i : (r : Int) < 64 := by omega
      clear hks hks' hr
      generalize ks K N k = z at *
      go_quiet (fail)
      go_wp2_with fail
      go_roundw
      case rel => exact ⟨k + 1, by omega, by go_num, rx'.drewN _, q6'.drewN _, q7'.drewN _, below_drewN hb7 _⟩
      case measure => simp [intOf]; omega
    · go_wp2_with fail
      go_ret
      exact ⟨rfl, hb⟩
end Go.Proofs.YtnooklfhpjfbmaaDoor
