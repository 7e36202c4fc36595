/- The law ChachaIsInvolution: its walk. -/
import Derived.Test.YtnooklfhpjfbmaaDoorF
import Derived.Test.YtnooklfhpjfbmaaDoorKit3
set_option linter.all false
namespace Go.Proofs.YtnooklfhpjfbmaaDoor
open Go.RowKit Go.Fen
set_option linter.unusedVariables false
set_option maxHeartbeats 400000

/-- 's[:hi]' of a slice whose elements have one cell -/
theorem wpList_slice_hi {P : Program} {ops : Array Oper} {rest : List Oper} {a : Act} {w : World} {Q : Exit → Act → World → Prop} {o : Oper} (h1 : o.guard = none) (ty e : TypeId) (x hi : Operand) (ho : o.op = .slice ty x none (some hi) none) (hu : P.underlying ty = some (.slice e)) (hs : (P.info? e).map (·.size) = some 1)
    (aa : Option Addr) (l c u : Nat) {hv : Int} (hx : a.eval x = .slice aa l c) (hh : a.eval hi = .int .i64 hv) (e1 : hv = u) (huc : u ≤ c)
    (h : wpList P ops Q rest (a.put o.dst (.slice aa u c)) w) : wpList P ops Q (o :: rest) a w := by
  subst e1
  refine wpList_plain h1 fun K hK => ?_
  have hsz : (sizeOf e).run P w = .ok 1 w := by
    cases hq : P.info? e with
    | none => simp [hq] at hs
    | some i => have : i.size = 1 := by simpa [hq] using hs
                simp [sizeOf, typeInfo, hq, this]
  have hb2 : (Instr.sliceBound (.int .i64 (u : Int)) c .sliceAcap).run P w = .ok u w := by
    simp [Instr.sliceBound, asIntOf, Int.ofNat_le.2 huc]
  have hadd : ∀ x : Addr, x.add 0 = x := fun x => by simp [Addr.add]
  have hrun : (Instr.sliceAt ty (.slice aa l c) none (some (.int .i64 (u : Int))) none).run P w = .ok (.slice aa u c) w := by
    simp [Instr.sliceAt, Instr.slice, Sem.run_bind, run_underlying hu, Instr.sliceBounds, hb2, hsz, hadd]
  unfold Oper.wp execOp
  simp only [ho, hx, hh, Sem.run_bind, Option.map_some, Option.map_none, hrun]
  exact hK _ _ h

theorem wpList_min2 {P : Program} {ops : Array Oper} {rest : List Oper} {a : Act} {w : World} {Q : Exit → Act → World → Prop} {o : Oper} (h1 : o.guard = none) (x y : Operand) (ts : Array TypeId) (ho : o.op = .call { callee := .builtin .min, args := #[x, y], argTypes := ts })
    {p q m : Int} (hx : a.eval x = .int .i64 p) (hy : a.eval y = .int .i64 q) (hm : m = min p q)
    (h : wpList P ops Q rest (a.put o.dst (.int .i64 m)) w) : wpList P ops Q (o :: rest) a w := by
  refine wpList_plain h1 fun K hK => ?_
  have e : (if q < p then q else p) = m := by rw [hm]; split <;> omega
  unfold Oper.wp
  simp [execOp, ho, resolve, invoke, builtin, hx, hy, Builtin.min_, Builtin.min2, Result.andThen, e]
  exact hK _ _ h

theorem xor_xor (K N l : List (BitVec 8)) : xorL K N (xorL K N l) = l := by
  apply List.ext_getElem
  · rw [length_xorL, length_xorL]
  · intro i h1 h2
    have e1 := get_xorL K N (xorL K N l) i (by rw [length_xorL]; exact h2)
    rw [get_xorL K N l i h2] at e1
    simp only [List.getD, h2, h1, List.getElem?_eq_getElem, Option.getD_some] at e1
    rw [e1, BitVec.xor_assoc, BitVec.xor_self, BitVec.xor_zero]

theorem call8 : Program.callable Tryd.prog 8 = true := by kernel_rfl
theorem call9c : Program.callable Tryd.prog 9 = true := by kernel_rfl
theorem call10 : Program.callable Tryd.prog 10 = true := by kernel_rfl
theorem call11 : Program.callable Tryd.prog 11 = true := by kernel_rfl
theorem call12 : Program.callable Tryd.prog 12 = true := by kernel_rfl

theorem involution_walk (a0 a1 : Option Addr) (l0 l1 : List (BitVec 8)) (c0 c1 : Nat) (h0 : l0.length ≤ 9223372036854775807) (h1 : l1.length ≤ 9223372036854775807) (hc1 : l1.length ≤ c1) (w : World) (hT : Tab w) (B0 : Bs w a0 l0) (B1 : Bs w a1 l1) :
    Calls Tryd.prog 3 #[.slice a0 l0.length c0, .slice a1 l1.length c1] w fun e w' => e = .returned (.bool true) ∧ Below w.heap.size w w' := by
  obtain ⟨n1, hn1⟩ : ∃ n, n = l1.length := ⟨_, rfl⟩
  have hmade := fun w' => made_any a0 l0 c0 h0 w'
  generalize hn0 : l0.length = n0 at *
  rw [← hn1] at h1 hc1 ⊢
  have Hm := Lib.hid hmade
  have B0' := Lib.hid B0
  have B1' := Lib.hid B1
  have N1 := Lib.hid hn1
  clear hmade B0 B1 hn1 hn0
  go_enter Tryd.func3, Tryd.ntmps3
  go_wp2_with fail
  refine (sanity_any w hT).mono ?_
  rintro e w1 ⟨rfl, hb1⟩
  go_wp2_with fail
  refine (Hm.out w1 (B0'.out.below hb1 (Nat.le_refl _))).mono ?_
  rintro e w2 ⟨⟨K, N, hK, hN, rfl⟩, hb2⟩
  have hb := hb1.trans (hb2.mono hb1.size)
  clear hb1 hb2
  have nK : (Tryd.prog.info? 25).map (·.size) = some (bcells K).size := by rw [size_bcells K, hK]; exact Tryd.n25
  have nN : (Tryd.prog.info? 26).map (·.size) = some (bcells N).size := by rw [size_bcells N, hN]; exact Tryd.n26
  obtain ⟨m, hm⟩ : ∃ m : Nat, m = min n1 300 := ⟨_, rfl⟩
  have m1 : m ≤ c1 := by omega
  have em : (m : Int) = min (n1 : Int) 300 := by omega
  obtain ⟨g6, e6⟩ : ∃ g, g = w2.heap.size := ⟨_, rfl⟩
  have r6 : Row ((w2.alloc (.cells (bcells K) 25)).alloc (.cells (bcells N) 26)) g6 25 (bcells K) := Row.alloc (Row.new' _ _ e6) _
  have r7 : Row ((w2.alloc (.cells (bcells K) 25)).alloc (.cells (bcells N) 26)) (g6 + 1) 26 (bcells N) := Row.new' _ _ (by simp [e6])
  have hb2 : Below w.heap.size w ((w2.alloc (.cells (bcells K) 25)).alloc (.cells (bcells N) 26)) := (hb.alloc hb.size _).alloc (by have := hb.size; simp; omega) _
  have E6 := Lib.hid e6
  have Hm' := Lib.hid hm
  have Em := Lib.hid em
  clear e6 hb hm em
  go_wp2_with (first | ((with_reducible show wpList _ _ _ (Oper.mk _ (Op.slice _ _ _ _ _) _ _ _ _ :: _) _ _); refine wpList_slice_hi rfl 22 5 (.tmp 15) (.tmp 18) rfl Tryd.underlying22 Tryd.n5 a1 n1 c1 m rfl rfl rfl m1 ?_) | ((with_reducible show wpList _ _ _ (Oper.mk _ (Op.call _) _ _ _ _ :: _) _ _); refine wpList_min2 rfl (.tmp 17) (.const (.int .i64 300)) _ rfl rfl rfl Em.out ?_) | ((with_reducible show wpList _ _ _ (Oper.mk _ (Op.alloc _) _ _ _ _ :: _) _ _); refine wpList_new2 rfl rfl rfl rfl 25 26 6 7 (.tmp 13) (.tmp 14) rfl rfl rfl rfl rfl rfl rfl rfl g6 (g6 + 1) E6.out (by rw [E6.out]) (bcells K) (bcells N) rfl rfl rfl rfl _ _ Tryd.z25 Tryd.z26 nK nN (by rw [size_bcells, size_bcells, hK]; rfl) (by rw [size_bcells, size_bcells, hN]; rfl) (one_bcells _) (one_bcells _) ?_))
  generalize hW : ((w2.alloc (.cells (bcells K) 25)).alloc (.cells (bcells N) 26)) = W at *
  clear hW
  have lm : (l1.take m).length = m := by rw [List.length_take, ← N1.out]; have := Hm'.out; omega
  have B1t : Bs W.drew a1 (l1.take m) := (B1'.out.below hb2.drew (Nat.le_refl _)).take m
  have hTd : Tab W.drew := hT.below hb2.drew hT.lt
  have X1 : Hid (Calls Tryd.prog 11 #[.agg (bcells K), .agg (bcells N), .slice a1 m c1] W.drew fun e w' => ∃ g', e = .returned (.slice (some ⟨g', 0, none⟩) m m) ∧ Row w' g' 5 (bcells (xorL K N (l1.take m))) ∧ Below W.heap.size W.drew w') := Lib.hid (by
    have := xor_any K N hK hN a1 (l1.take m) c1 (by rw [lm]; have := Hm'.out; omega) W.drew hTd B1t
    rw [lm] at this
    exact this)
  have X2 : Hid (∀ w3 g', Below W.heap.size W.drew w3 → Row w3 g' 5 (bcells (xorL K N (l1.take m))) → Calls Tryd.prog 11 #[.agg (bcells K), .agg (bcells N), .slice (some ⟨g', 0, none⟩) m m] w3 fun e w' => ∃ g', e = .returned (.slice (some ⟨g', 0, none⟩) m m) ∧ Row w' g' 5 (bcells (l1.take m)) ∧ Below w3.heap.size w3 w') := Lib.hid (fun w3 g' hb3 hr => by
    have := xor_any K N hK hN (some ⟨g', 0, none⟩) (xorL K N (l1.take m)) m (by rw [length_xorL, lm]; have := Hm'.out; omega) w3 (hTd.below hb3 (by have := hT.lt; have := hb2.size; omega)) (Bs.of_row hr)
    rw [length_xorL, lm, xor_xor] at this
    exact this)
  have X3 : Hid (∀ w4 g', Below W.heap.size W.drew w4 → Row w4 g' 5 (bcells (l1.take m)) → Calls Tryd.prog 10 #[.slice (some ⟨g', 0, none⟩) m m, .slice a1 m c1] w4 fun e w' => e = .returned (.bool true) ∧ w4 = w') := Lib.hid (fun w4 g' hb4 hr => by
    have := same_any (some ⟨g', 0, none⟩) a1 (l1.take m) m c1 w4 (Bs.of_row hr) (B1t.below hb4 (Nat.le_refl _))
    rw [lm] at this
    exact this)
  clear lm B1t hTd
  have hS : (∃ t, Row W.drew g6 t (bcells K)) ∧ ∃ t, Row W.drew (g6 + 1) t (bcells N) := ⟨⟨_, r6.drew⟩, ⟨_, r7.drew⟩⟩
  refine wp_region_held (S := fun W' => (∃ t, Row W' g6 t (bcells K)) ∧ ∃ t, Row W' (g6 + 1) t (bcells N)) (by kernel_rfl) ?_
  refine take_move 0 20 (.tmp 5) (.bool true) rfl rfl rfl rfl rfl (by kernel_rfl) (by kernel_rfl) (by kernel_rfl) (fun _ _ _ h => h) hS ?_
  simp only [Act.put, List.setIfInBounds_toArray, List.set_cons_zero, List.set_cons_succ]
  refine take_move 1 21 (.tmp 20) (.bool true) rfl rfl rfl rfl rfl (by kernel_rfl) (by kernel_rfl) (by kernel_rfl) (fun _ _ _ h => h) hS ?_
  simp only [Act.put, List.setIfInBounds_toArray, List.set_cons_zero, List.set_cons_succ]
  refine take_arr 2 22 25 (.tmp 6) (g6) (bcells K) Tryd.underlying25 nK (fun _ h => h.1) rfl rfl rfl rfl rfl (by kernel_rfl) (by kernel_rfl) (by kernel_rfl) (fun _ _ _ h => h) hS ?_
  simp only [Act.put, List.setIfInBounds_toArray, List.set_cons_zero, List.set_cons_succ]
  refine take_arr 3 23 26 (.tmp 7) (g6 + 1) (bcells N) Tryd.underlying26 nN (fun _ h => h.2) rfl rfl rfl rfl rfl (by kernel_rfl) (by kernel_rfl) (by kernel_rfl) (fun _ _ _ h => h) hS ?_
  simp only [Act.put, List.setIfInBounds_toArray, List.set_cons_zero, List.set_cons_succ]
  refine take_arr 4 24 25 (.tmp 6) (g6) (bcells K) Tryd.underlying25 nK (fun _ h => h.1) rfl rfl rfl rfl rfl (by kernel_rfl) (by kernel_rfl) (by kernel_rfl) (fun _ _ _ h => h) hS ?_
  simp only [Act.put, List.setIfInBounds_toArray, List.set_cons_zero, List.set_cons_succ]
  refine take_arr 5 25 26 (.tmp 7) (g6 + 1) (bcells N) Tryd.underlying26 nN (fun _ h => h.2) rfl rfl rfl rfl rfl (by kernel_rfl) (by kernel_rfl) (by kernel_rfl) (fun _ _ _ h => h) hS ?_
  simp only [Act.put, List.setIfInBounds_toArray, List.set_cons_zero, List.set_cons_succ]
  refine take_move 6 26 (.tmp 8) (.slice a1 m c1) rfl rfl rfl rfl rfl (by kernel_rfl) (by kernel_rfl) (by kernel_rfl) (fun _ _ _ h => h) hS ?_
  simp only [Act.put, List.setIfInBounds_toArray, List.set_cons_zero, List.set_cons_succ]
  refine take_move 9 29 (.tmp 8) (.slice a1 m c1) rfl rfl rfl rfl rfl (by kernel_rfl) (by kernel_rfl) (by kernel_rfl) (fun _ _ _ h => h) hS ?_
  simp only [Act.put, List.setIfInBounds_toArray, List.set_cons_zero, List.set_cons_succ]
  refine wpAnyH_one (i := 7) (by kernel_rfl) rfl rfl (wp_call_ret rfl call11 X1.out (by simp [Act.eval]) (d := 27) rfl ?_)
  rintro e w3 ⟨g3, rfl, r3, hb3⟩
  have hS3 : (∃ t, Row w3 g6 t (bcells K)) ∧ ∃ t, Row w3 (g6 + 1) t (bcells N) := ⟨⟨_, r6.drew.below hb3 r6.lt⟩, ⟨_, r7.drew.below hb3 r7.lt⟩⟩
  refine ⟨_, rfl, hS3, ?_⟩
  simp only [Act.put, List.setIfInBounds_toArray, List.set_cons_zero, List.set_cons_succ]
  refine wpAnyH_one (i := 8) (by kernel_rfl) rfl rfl (wp_call_ret rfl call11 (X2.out _ _ hb3 r3) (by simp [Act.eval]) (d := 28) rfl ?_)
  rintro e w4 ⟨g4, rfl, r4, hb4⟩
  have hb4' := hb3.trans (hb4.mono hb3.size)
  have hS4 : (∃ t, Row w4 g6 t (bcells K)) ∧ ∃ t, Row w4 (g6 + 1) t (bcells N) := ⟨⟨_, r6.drew.below hb4' r6.lt⟩, ⟨_, r7.drew.below hb4' r7.lt⟩⟩
  refine ⟨_, rfl, hS4, ?_⟩
  simp only [Act.put, List.setIfInBounds_toArray, List.set_cons_zero, List.set_cons_succ]
  refine wpAnyH_one (i := 10) (by kernel_rfl) rfl rfl (wp_call_ret rfl call10 (X3.out _ _ hb4' r4) (by simp [Act.eval]) (d := 30) rfl ?_)
  rintro e w5 ⟨rfl, rfl⟩
  refine ⟨_, rfl, hS4, ?_⟩
  simp only [Act.put, List.setIfInBounds_toArray, List.set_cons_zero, List.set_cons_succ]
  refine take_run 11 31 (.bool true) rfl rfl rfl (fun W _ => rfl) (by kernel_rfl) (by kernel_rfl) (by kernel_rfl) (fun _ _ _ h => h) hS4 ?_
  simp only [Act.put, List.setIfInBounds_toArray, List.set_cons_zero, List.set_cons_succ]
  refine take_run 12 4 (.bool true) rfl rfl rfl (fun W _ => rfl) (by kernel_rfl) (by kernel_rfl) (by kernel_rfl) (fun _ _ _ h => h) hS4 ?_
  simp only [Act.put, List.setIfInBounds_toArray, List.set_cons_zero, List.set_cons_succ]
  refine wpAnyH_done (by kernel_rfl) ?_ _
  go_wp2
  go_ret
  exact ⟨rfl, (hb2.drew).trans (hb4'.mono hb2.size)⟩
end Go.Proofs.YtnooklfhpjfbmaaDoor
