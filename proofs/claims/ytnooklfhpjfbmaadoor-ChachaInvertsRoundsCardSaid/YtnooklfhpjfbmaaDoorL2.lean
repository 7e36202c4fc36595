/- The law ChachaPrefixes: its walk. -/
import Derived.Test.YtnooklfhpjfbmaaDoorG
set_option linter.all false
namespace Go.Proofs.YtnooklfhpjfbmaaDoor
open Go.RowKit Go.Fen
set_option linter.unusedVariables false
set_option maxHeartbeats 400000

theorem xor_take (K N l : List (BitVec 8)) (p : Nat) : (xorL K N l).take p = xorL K N (l.take p) := by
  apply List.ext_getElem
  · rw [List.length_take, length_xorL, length_xorL, List.length_take]
  · intro i h1 h2
    have h3 : i < (l.take p).length := by rw [length_xorL] at h2; exact h2
    have h4 : i < l.length := by rw [List.length_take] at h3; omega
    have h5 : i < p := by rw [List.length_take] at h3; omega
    have e1 := get_xorL K N (l.take p) i h3
    have e2 := get_xorL K N l i h4
    have h6 : i < (xorL K N l).length := by rw [length_xorL]; exact h4
    simp only [List.getD, h2, h3, h4, h6, List.getElem?_eq_getElem, Option.getD_some, List.getElem_take] at e1 e2 ⊢
    rw [e1, e2]

/-- 's[:hi]' as one operation -/
theorem run_slice_hi' {P : Program} (w : World) (ty e : TypeId) (hu : P.underlying ty = some (.slice e)) (hs : (P.info? e).map (·.size) = some 1) (aa : Option Addr) (l c u : Nat) (huc : u ≤ c) :
    (Instr.sliceAt ty (.slice aa l c) none (some (.int .i64 (u : Int))) none).run P w = .ok (.slice aa u c) w := by
  have hsz : (sizeOf e).run P w = .ok 1 w := by
    cases hq : P.info? e with
    | none => simp [hq] at hs
    | some i => have : i.size = 1 := by simpa [hq] using hs
                simp [sizeOf, typeInfo, hq, this]
  have hb2 : (Instr.sliceBound (.int .i64 (u : Int)) c .sliceAcap).run P w = .ok u w := by
    simp [Instr.sliceBound, asIntOf, Int.ofNat_le.2 huc]
  have hadd : ∀ x : Addr, x.add 0 = x := fun x => by simp [Addr.add]
  simp [Instr.sliceAt, Instr.slice, Sem.run_bind, run_underlying hu, Instr.sliceBounds, hb2, hsz, hadd]
theorem exec_slice_hi {P : Program} {a : Act} {o : Oper} (w : World) (ty e : TypeId) (x hi : Operand) (ho : o.op = .slice ty x none (some hi) none) (hu : P.underlying ty = some (.slice e)) (hs : (P.info? e).map (·.size) = some 1) (aa : Option Addr) (l c u : Nat)
    (hx : a.eval x = .slice aa l c) (hh : a.eval hi = .int .i64 (u : Int)) (huc : u ≤ c) : (execOp a.eval o).run P w = .ok (.value (.slice aa u c)) w := by
  unfold execOp
  simp only [ho, hx, hh, Sem.run_bind, Option.map_some, Option.map_none, run_slice_hi' w ty e hu hs aa l c u huc]
  rfl

theorem wp_value {P : Program} {a : Act} {w w' : World} {K : Act → World → Prop} {Q : Exit → Act → World → Prop} {o : Oper} {d : Tmp} (hd : o.dst = some d) {v : Value} (h : (execOp a.eval o).run P w = .ok (.value v) w') (hk : K (a.put (some d) v) w') : o.wp P a w K Q := by
  unfold Oper.wp
  rw [h, Oper.upon_value, hd]
  exact hk

theorem prefixes_walk (a0 a1 : Option Addr) (l0 l1 : List (BitVec 8)) (c0 c1 : Nat) (nv : Int) (hn0' : 0 ≤ nv) (hn1' : nv ≤ 65535) (h0 : l0.length ≤ 9223372036854775807) (h1 : l1.length ≤ 9223372036854775807) (hc1 : l1.length ≤ c1) (w : World) (hT : Tab w) (B0 : Bs w a0 l0) (B1 : Bs w a1 l1) :
    Calls Tryd.prog 4 #[.slice a0 l0.length c0, .slice a1 l1.length c1, .int .u16 nv] w fun e w' => e = .returned (.bool true) ∧ Below w.heap.size w w' := by
  obtain ⟨n1, hn1⟩ : ∃ n, n = l1.length := ⟨_, rfl⟩
  have hmade := fun w' => made_any a0 l0 c0 h0 w'
  generalize hn0 : l0.length = n0 at *
  rw [← hn1] at h1 hc1 ⊢
  have Hm := Lib.hid hmade
  have B0' := Lib.hid B0
  have B1' := Lib.hid B1
  have N1 := Lib.hid hn1
  clear hmade B0 B1 hn1 hn0
  go_enter Tryd.func4, Tryd.ntmps4
  go_wp2_with fail
  refine (sanity_any w hT).mono ?_
  rintro e w1 ⟨rfl, hb1⟩
  go_wp2_with fail
  refine (Hm.out w1 (B0'.out.below hb1 (Nat.le_refl _))).mono ?_
  rintro e w2 ⟨⟨K, N, hK, hN, rfl⟩, hb2⟩
  have hb := hb1.trans (hb2.mono hb1.size)
  clear hb1 hb2
  have nK : (Tryd.prog.info? 25).map (·.size) = some (bcells K).size := by rw [size_bcells K, hK]; exact Tryd.n25
  have nN : (Tryd.prog.info? 26).map (·.size) = some (bcells N).size := by rw [size_bcells N, hN]; exact Tryd.n26
  obtain ⟨m, hm⟩ : ∃ m : Nat, m = min n1 300 := ⟨_, rfl⟩
  have m1 : m ≤ c1 := by omega
  have m3 : m ≤ 300 := by omega
  have em : (m : Int) = min (n1 : Int) 300 := by omega
  obtain ⟨p, hp⟩ : ∃ p : Nat, (p : Int) = nv % ((m : Int) + 1) := ⟨(nv % ((m : Int) + 1)).toNat, by have := Int.emod_nonneg nv (show ((m : Int) + 1) ≠ 0 by omega); omega⟩
  have hpm : p ≤ m := by have := Int.emod_lt_of_pos nv (show (0 : Int) < (m : Int) + 1 by omega); omega
  have hp' : nv % ((m : Int) + 1) = (p : Int) := hp.symm
  obtain ⟨g6, e6⟩ : ∃ g, g = w2.heap.size := ⟨_, rfl⟩
  have r6 : Row ((w2.alloc (.cells (bcells K) 25)).alloc (.cells (bcells N) 26)) g6 25 (bcells K) := Row.alloc (Row.new' _ _ e6) _
  have r7 : Row ((w2.alloc (.cells (bcells K) 25)).alloc (.cells (bcells N) 26)) (g6 + 1) 26 (bcells N) := Row.new' _ _ (by simp [e6])
  have hb2 : Below w.heap.size w ((w2.alloc (.cells (bcells K) 25)).alloc (.cells (bcells N) 26)) := (hb.alloc hb.size _).alloc (by have := hb.size; simp; omega) _
  have E6 := Lib.hid e6
  have Hm' := Lib.hid hm
  have Em := Lib.hid em
  clear e6 hb hm em hp
  go_wp2_with (first | ((with_reducible show wpList _ _ _ (Oper.mk _ (Op.slice _ _ _ _ _) _ _ _ _ :: _) _ _); refine wpList_slice_hi rfl 22 5 (.tmp 20) (.tmp 23) rfl Tryd.underlying22 Tryd.n5 a1 n1 c1 m rfl rfl rfl m1 ?_) | ((with_reducible show wpList _ _ _ (Oper.mk _ (Op.call _) _ _ _ _ :: _) _ _); refine wpList_min2 rfl (.tmp 22) (.const (.int .i64 300)) _ rfl rfl rfl Em.out ?_) | ((with_reducible show wpList _ _ _ (Oper.mk _ (Op.alloc _) _ _ _ _ :: _) _ _); refine wpList_new2 rfl rfl rfl rfl 25 26 8 9 (.tmp 18) (.tmp 19) rfl rfl rfl rfl rfl rfl rfl rfl g6 (g6 + 1) E6.out (by rw [E6.out]) (bcells K) (bcells N) rfl rfl rfl rfl _ _ Tryd.z25 Tryd.z26 nK nN (by rw [size_bcells, size_bcells, hK]; rfl) (by rw [size_bcells, size_bcells, hN]; rfl) (one_bcells _) (one_bcells _) ?_) | ((with_reducible show wpList _ _ _ (Oper.mk _ (Op.load _ _) _ _ _ _ :: _) _ _); first | (refine wpList_load_arr rfl 25 (.tmp 8) rfl g6 25 (bcells K) Tryd.underlying25 nK rfl r6 ?_) | (refine wpList_load_arr rfl 26 (.tmp 9) rfl (g6 + 1) 26 (bcells N) Tryd.underlying26 nN rfl r7 ?_)))
  generalize hW : ((w2.alloc (.cells (bcells K) 25)).alloc (.cells (bcells N) 26)) = W at *
  clear hW
  have lm : (l1.take m).length = m := by rw [List.length_take, ← N1.out]; have := Hm'.out; omega
  have lp : (l1.take p).length = p := by rw [List.length_take, ← N1.out]; have := Hm'.out; omega
  have B1m : Bs W a1 (l1.take m) := (B1'.out.below hb2 (Nat.le_refl _)).take m
  have hTd : Tab W := hT.below hb2 hT.lt
  have hX := xor_any K N hK hN a1 (l1.take m) c1 (by rw [lm]; omega) W hTd B1m
  rw [lm] at hX
  refine hX.mono ?_
  rintro e w3 ⟨g3, rfl, r3, hb3⟩
  have r6' := r6.below hb3 r6.lt
  have r7' := r7.below hb3 r7.lt
  have hb4 := hb2.trans (hb3.mono hb2.size)
  have B1p : Bs w3.drew a1 (l1.take p) := by
    have := (B1'.out.below hb4.drew (Nat.le_refl _)).take p
    exact this
  have X2 : Hid (Calls Tryd.prog 11 #[.agg (bcells K), .agg (bcells N), .slice a1 p c1] w3.drew fun e w' => ∃ g', e = .returned (.slice (some ⟨g', 0, none⟩) p p) ∧ Row w' g' 5 (bcells (xorL K N (l1.take p))) ∧ Below w3.heap.size w3.drew w') := Lib.hid (by
    have := xor_any K N hK hN a1 (l1.take p) c1 (by rw [lp]; omega) w3.drew (hT.below hb4.drew hT.lt) B1p
    rw [lp] at this
    exact this)
  have X3 : Hid (∀ w4 g', Below w3.heap.size w3.drew w4 → Row w4 g' 5 (bcells (xorL K N (l1.take p))) → Calls Tryd.prog 10 #[.slice (some ⟨g3, 0, none⟩) p m, .slice (some ⟨g', 0, none⟩) p p] w4 fun e w' => e = .returned (.bool true) ∧ w4 = w') := Lib.hid (fun w4 g' hb5 hr => by
    have r3' := r3.drew.below hb5 r3.lt
    have hbs := (Bs.of_row r3').take p
    rw [xor_take, List.take_take, Nat.min_eq_left hpm] at hbs
    have := same_any (some ⟨g3, 0, none⟩) (some ⟨g', 0, none⟩) (xorL K N (l1.take p)) m p w4 hbs (Bs.of_row hr)
    rw [length_xorL, lp] at this
    exact this)
  clear hX lm lp B1m hTd B1p r6 r7 hb3
  go_wp2_with fail
  have hS : (∃ t, Row w3.drew g6 t (bcells K)) ∧ ∃ t, Row w3.drew (g6 + 1) t (bcells N) := ⟨⟨_, r6'.drew⟩, ⟨_, r7'.drew⟩⟩
  refine wp_region_held (S := fun W' => (∃ t, Row W' g6 t (bcells K)) ∧ ∃ t, Row W' (g6 + 1) t (bcells N)) (by kernel_rfl) ?_
  refine take_arr 0 35 25 (.tmp 8) (g6) (bcells K) Tryd.underlying25 nK (fun _ h => h.1) rfl rfl rfl rfl rfl (by kernel_rfl) (by kernel_rfl) (by kernel_rfl) (fun _ _ _ h => h) hS ?_
  simp only [Act.put, List.setIfInBounds_toArray, List.set_cons_zero, List.set_cons_succ]
  refine take_arr 1 36 26 (.tmp 9) (g6 + 1) (bcells N) Tryd.underlying26 nN (fun _ h => h.2) rfl rfl rfl rfl rfl (by kernel_rfl) (by kernel_rfl) (by kernel_rfl) (fun _ _ _ h => h) hS ?_
  simp only [Act.put, List.setIfInBounds_toArray, List.set_cons_zero, List.set_cons_succ]
  refine take_move 2 37 (.tmp 10) (.slice a1 m c1) rfl rfl rfl rfl rfl (by kernel_rfl) (by kernel_rfl) (by kernel_rfl) (fun _ _ _ h => h) hS ?_
  simp only [Act.put, List.setIfInBounds_toArray, List.set_cons_zero, List.set_cons_succ]
  refine take_move 3 38 (.tmp 11) (.int .i64 (p : Int)) rfl rfl rfl rfl rfl (by kernel_rfl) (by kernel_rfl) (by kernel_rfl) (fun _ _ _ h => h) hS ?_
  simp only [Act.put, List.setIfInBounds_toArray, List.set_cons_zero, List.set_cons_succ]
  refine take_run 4 39 (.slice a1 p c1) rfl rfl rfl (fun W _ => exec_slice_hi W 22 5 (.tmp 37) (.tmp 38) rfl Tryd.underlying22 Tryd.n5 a1 m c1 p rfl rfl (by omega)) (by kernel_rfl) (by kernel_rfl) (by kernel_rfl) (fun _ _ _ h => h) hS ?_
  simp only [Act.put, List.setIfInBounds_toArray, List.set_cons_zero, List.set_cons_succ]
  refine wpAnyH_one (i := 5) (by kernel_rfl) rfl rfl (wp_call_ret rfl call11 X2.out (by simp [Act.eval]) (d := 40) rfl ?_)
  rintro e w4 ⟨g4, rfl, r4, hb5⟩
  have hS4 : (∃ t, Row w4 g6 t (bcells K)) ∧ ∃ t, Row w4 (g6 + 1) t (bcells N) := ⟨⟨_, r6'.drew.below hb5 r6'.lt⟩, ⟨_, r7'.drew.below hb5 r7'.lt⟩⟩
  refine ⟨_, rfl, hS4, ?_⟩
  simp only [Act.put, List.setIfInBounds_toArray, List.set_cons_zero, List.set_cons_succ]
  refine take_run 6 13 (.slice (some ⟨g4, 0, none⟩) p p) rfl rfl rfl (fun W _ => rfl) (by kernel_rfl) (by kernel_rfl) (by kernel_rfl) (fun _ _ _ h => h) hS4 ?_
  simp only [Act.put, List.setIfInBounds_toArray, List.set_cons_zero, List.set_cons_succ]
  refine wpAnyH_done (by kernel_rfl) ?_ _
  have X3' : Hid (Calls Tryd.prog 10 #[.slice (some ⟨g3, 0, none⟩) p m, .slice (some ⟨g4, 0, none⟩) p p] w4 fun e w' => e = .returned (.bool true) ∧ w4 = w') := Lib.hid (X3.out w4 g4 hb5 r4)
  have hb6 := hb4.trans (Below.mono (show Below w3.heap.size w3 w4 from ⟨hb5.os, hb5.tape, hb5.output, hb5.size, hb5.block⟩) hb4.size)
  clear hS hS4 r4 r6' r7' hb5
  go_wp2_with (first | ((with_reducible show wpList _ _ _ (Oper.mk _ (Op.slice _ _ _ _ _) _ _ _ _ :: _) _ _); refine wpList_wanted rfl fun K hK => wp_value (d := 58) rfl (exec_slice_hi _ 22 5 (.tmp 56) (.tmp 57) rfl Tryd.underlying22 Tryd.n5 _ m m p rfl rfl hpm) (hK _ _ ?_)))
  refine X3'.out.mono ?_
  rintro e w5 ⟨rfl, rfl⟩
  go_wp2
  go_ret
  exact ⟨rfl, hb6⟩
end Go.Proofs.YtnooklfhpjfbmaaDoor
