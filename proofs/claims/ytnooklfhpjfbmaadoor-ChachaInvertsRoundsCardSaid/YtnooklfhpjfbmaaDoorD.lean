/- The contracts of chacha.Xor, and of the reference's Made and Same. -/
import Derived.Test.YtnooklfhpjfbmaaDoorC
import Derived.Test.YtnooklfhpjfbmaaDoorKit2
set_option linter.all false
namespace Go.Proofs.YtnooklfhpjfbmaaDoor
open Go.RowKit Go.Fen
set_option linter.unusedVariables false
set_option maxHeartbeats 400000

/-- 's[i]' of a slice whose elements have one cell -/
theorem wpList_at_slice {P : Program} {ops : Array Oper} {rest : List Oper} {a : Act} {w : World} {Q : Exit → Act → World → Prop} {o : Oper} (h1 : o.guard = none) (ty e : TypeId) (x ix : Operand) (ho : o.op = .indexAddr ty x ix) (hu : P.underlying ty = some (.slice e)) (hs : (P.info? e).map (·.size) = some 1)
    (aa : Option Addr) (l c g off k : Nat) {iv : Int} (hx : a.eval x = .slice aa l c) (hi : a.eval ix = .int .i64 iv) (haa : aa = some ⟨g, off, none⟩) (hiv : iv = k) (hk : k < l)
    (h : wpList P ops Q rest (a.put o.dst (.pointer (some ⟨g, off + k, none⟩))) w) : wpList P ops Q (o :: rest) a w := by
  subst haa
  subst hiv
  refine wpList_plain h1 fun K hK => ?_
  have hsz : (sizeOf e).run P w = .ok 1 w := by
    cases hq : P.info? e with
    | none => simp [hq] at hs
    | some i => have : i.size = 1 := by simpa [hq] using hs
                simp [sizeOf, typeInfo, hq, this]
  have hadd : (⟨g, off, none⟩ : Addr).add k = ⟨g, off + k, none⟩ := by
    unfold Addr.add
    split
    · subst_vars; rfl
    · rfl
  have hrun : (Instr.indexAt ty (.slice (some ⟨g, off, none⟩) l c) (.int .i64 (k : Int))).run P w = .ok (.pointer (some ⟨g, off + k, none⟩)) w := by
    simp [Instr.indexAt, asIntOf, run_underlying hu, hk, hsz, hadd]
  unfold Oper.wp execOp
  simp only [ho, hx, hi, Sem.run_bind, hrun]
  exact hK _ _ h

theorem same_any (a a' : Option Addr) (l : List (BitVec 8)) (c c' : Nat) (w : World) (h : Bs w a l) (h' : Bs w a' l) :
    Calls Tryd.prog 10 #[.slice a l.length c, .slice a' l.length c'] w fun e w' => e = .returned (.bool true) ∧ w = w' := by
  have h1 := run_conv_bytes (P := Tryd.prog) w 22 5 9 Tryd.underlying22 Tryd.underlying5 Tryd.underlying9 a l c h
  have h2 := run_conv_bytes (P := Tryd.prog) w 22 5 9 Tryd.underlying22 Tryd.underlying5 Tryd.underlying9 a' l c' h'
  go_enter Tryd.func10, Tryd.ntmps10
  go_wp2
  go_ret
  exact ⟨rfl, rfl⟩

theorem Tryd.z25 : (Tryd.prog.info? 25).bind (·.zero) = some (.agg (bcells (List.replicate 32 0#8))) := by kernel_rfl
theorem Tryd.z26 : (Tryd.prog.info? 26).bind (·.zero) = some (.agg (bcells (List.replicate 12 0#8))) := by kernel_rfl

/-- What the loop of Made keeps. -/
structure MInv (w0 w : World) (g2 g3 g4 g5 : Nat) : Prop where
  r2 : Row w g2 25 (bcells (List.replicate 32 0#8))
  r3 : Row w g3 26 (bcells (List.replicate 12 0#8))
  r4 : ∃ l, l.length = 32 ∧ Row w g4 25 (bcells l)
  r5 : ∃ l, l.length = 12 ∧ Row w g5 26 (bcells l)
  hb : Below w0.heap.size w0 w
theorem MInv.k {w0 w : World} {g2 g3 g4 g5 : Nat} (h : MInv w0 w g2 g3 g4 g5) (h2 : g2 < g4) (h3 : g3 < g4) (h4 : g4 < g5) (hB : w0.heap.size ≤ g4) (i : Nat) (b : BitVec 8) : MInv w0 (w.setCell ⟨g4, i, none⟩ (.int .u8 b.toNat)) g2 g3 g4 g5 := by
  obtain ⟨l, hl, r4⟩ := h.r4
  obtain ⟨m, hm, r5⟩ := h.r5
  exact ⟨h.r2.setOther (by show g2 ≠ g4; omega) _, h.r3.setOther (by show g3 ≠ g4; omega) _, ⟨l.set i b, by simp [hl], by rw [← set_bcells]; exact r4.set i _⟩, ⟨m, hm, r5.setOther (by show g5 ≠ g4; omega) _⟩, h.hb.setCell hB _⟩
theorem MInv.n {w0 w : World} {g2 g3 g4 g5 : Nat} (h : MInv w0 w g2 g3 g4 g5) (h2 : g2 < g4) (h3 : g3 < g4) (h4 : g4 < g5) (hB : w0.heap.size ≤ g4) (i : Nat) (b : BitVec 8) : MInv w0 (w.setCell ⟨g5, i, none⟩ (.int .u8 b.toNat)) g2 g3 g4 g5 := by
  obtain ⟨l, hl, r4⟩ := h.r4
  obtain ⟨m, hm, r5⟩ := h.r5
  exact ⟨h.r2.setOther (by show g2 ≠ g5; omega) _, h.r3.setOther (by show g3 ≠ g5; omega) _, ⟨l, hl, r4.setOther (by show g4 ≠ g5; omega) _⟩, ⟨m.set i b, by simp [hm], by rw [← set_bcells]; exact r5.set i _⟩, h.hb.setCell (by show w0.heap.size ≤ g5; omega) _⟩

set_option maxHeartbeats 1000000 in
theorem made_some (g o c : Nat) (l : List (BitVec 8)) (hl : l.length ≤ 9223372036854775807) (w : World) (hc : ∀ i, i < l.length → w.cell? ⟨g, o + i, none⟩ = some (.int .u8 (l.getD i 0#8).toNat)) (a : Option Addr) (ha : l = [] ∨ a = some ⟨g, o, none⟩) :
    Calls Tryd.prog 9 #[.slice a l.length c] w fun e w' => (∃ K N : List (BitVec 8), K.length = 32 ∧ N.length = 12 ∧ e = .returned (.tuple #[.agg (bcells K), .agg (bcells N)])) ∧ Below w.heap.size w w' := by
  have b0 : Below w.heap.size w w := Below.refl _ _
  obtain ⟨n, hn⟩ : ∃ n, n = l.length := ⟨_, rfl⟩
  rw [← hn] at hl hc ⊢
  obtain ⟨g2, e2⟩ : ∃ g, g = w.heap.size := ⟨_, rfl⟩
  have inv0 : MInv w ((((w.alloc (.cells (bcells (List.replicate 32 0#8)) 25)).alloc (.cells (bcells (List.replicate 12 0#8)) 26)).alloc (.cells (bcells (List.replicate 32 0#8)) 25)).alloc (.cells (bcells (List.replicate 12 0#8)) 26)) g2 (g2 + 1) (g2 + 2) (g2 + 3) :=
    ⟨(((Row.new' _ _ e2).alloc _).alloc _).alloc _, ((Row.new' _ _ (by simp [e2])).alloc _).alloc _, ⟨_, by simp, (Row.new' _ _ (by simp [e2])).alloc _⟩, ⟨_, by simp, Row.new' _ _ (by simp [e2])⟩,
      (((b0.alloc (Nat.le_refl _) _).alloc (by simp) _).alloc (by simp; omega) _).alloc (by simp; omega) _⟩
  have E2 := Lib.hid e2
  have Hn := Lib.hid hn
  have hlt2 : w.heap.size ≤ g2 := by omega
  clear hn e2
  go_enter Tryd.func9, Tryd.ntmps9
  go_wp2_with (first | ((with_reducible show wpList _ _ _ _ _ _); first | (refine wpList_new_row rfl rfl 25 4 (.tmp 7) rfl rfl rfl rfl (g2 + 2) (by simp [E2.out]) (bcells (List.replicate 32 0#8)) rfl rfl _ Tryd.z25 Tryd.n25 rfl (one_bcells _) ?_) | (refine wpList_new_row rfl rfl 26 5 (.tmp 8) rfl rfl rfl rfl (g2 + 3) (by simp [E2.out]) (bcells (List.replicate 12 0#8)) rfl rfl _ Tryd.z26 Tryd.n26 rfl (one_bcells _) ?_) | (refine wpList_alloc_row rfl 25 rfl _ Tryd.z25 g2 E2.out ?_) | (refine wpList_alloc_row rfl 26 rfl _ Tryd.z26 (g2 + 1) (by simp [E2.out]) ?_)))
  go_loopw [6] (fun i wr => ∃ k : Nat, k ≤ n ∧ k ≤ 44 ∧ i = .int .i64 k ∧ MInv w wr g2 (g2 + 1) (g2 + 2) (g2 + 3)) (fun i _ => 44 - (intOf i).toNat)
  case atStart => exact ⟨0, Nat.zero_le _, Nat.zero_le _, rfl, inv0⟩
  case round =>
    clear inv0
    obtain ⟨k, hk, hk44, rfl, inv⟩ := hrel
    by_cases h1 : k < n
    · have haa : a = some ⟨g, o, none⟩ := ha.resolve_left (fun h => by have := Hn.out; rw [h] at this; simp at this; omega)
      have hcg : g < w.heap.size := block_lt_of_cell (a := ⟨g, o + k, none⟩) (hc k h1)
      have hck := (inv.hb.cell (p := ⟨g, o + k, none⟩) hcg).trans (hc k h1)
      have Haa := Lib.hid haa
      clear haa hc
      generalize l.getD k 0#8 = b at *
      by_cases h2 : k < 32
      · obtain ⟨K, hK, r4⟩ := inv.r4
        have c4 := (r4.cell k).trans (get_bcells K k (by omega))
        have f4 := r4.frozen k
        clear r4
        generalize K.getD k 0#8 = b4 at *
        go_wp2_with (first | ((with_reducible show wpList _ _ _ _ _ _); first | (refine wpList_at_slice rfl 22 5 (.tmp 22) (.tmp 23) rfl Tryd.underlying22 Tryd.n5 a n c g o k rfl rfl Haa.out rfl h1 ?_)))
        go_roundw
        case rel => exact ⟨k + 1, by omega, by omega, by go_num, inv.k (by omega) (by omega) (by omega) (by omega) k b⟩
        case measure => simp [intOf]; omega
      · by_cases h3 : k < 44
        · obtain ⟨K, hK, r5⟩ := inv.r5
          have c5 := (r5.cell (k - 32)).trans (get_bcells K (k - 32) (by omega))
          have f5 := r5.frozen (k - 32)
          clear r5
          generalize K.getD (k - 32) 0#8 = b5 at *
          go_wp2_with (first | ((with_reducible show wpList _ _ _ _ _ _); first | (refine wpList_at_slice rfl 22 5 (.tmp 29) (.tmp 30) rfl Tryd.underlying22 Tryd.n5 a n c g o k rfl rfl Haa.out rfl h1 ?_)))
          go_roundw
          case rel => exact ⟨k + 1, by omega, by omega, by go_num, inv.n (by omega) (by omega) (by omega) (by omega) (k - 32) b⟩
          case measure => simp [intOf]; omega
        · go_wp2_with (first | ((with_reducible show wpList _ _ _ _ _ _); first | (refine wpList_at_slice rfl 22 5 (.tmp 29) (.tmp 30) rfl Tryd.underlying22 Tryd.n5 a n c g o k rfl rfl Haa.out rfl h1 ?_)))
          obtain ⟨K, hK, r4⟩ := inv.r4
          obtain ⟨N, hN, r5⟩ := inv.r5
          have nK : (Tryd.prog.info? 25).map (·.size) = some (bcells K).size := by rw [size_bcells K, hK]; exact Tryd.n25
          have nN : (Tryd.prog.info? 26).map (·.size) = some (bcells N).size := by rw [size_bcells N, hN]; exact Tryd.n26
          refine wp_region_out2 (by kernel_rfl) rfl (by kernel_rfl) (by kernel_rfl) (by kernel_rfl) (by kernel_rfl) (by kernel_rfl) (by kernel_rfl) (by kernel_rfl) rfl rfl rfl rfl 25 26 Tryd.underlying25 Tryd.underlying26 (.tmp 4) (.tmp 5) (.tmp 2) (.tmp 3) 34 35 (by decide) rfl rfl rfl rfl rfl rfl rfl rfl (g2 + 2) (g2 + 3) g2 (g2 + 1) (by omega) (by omega) 25 26 25 26 (bcells K) (bcells N) _ _ nK nN (by rw [size_bcells, size_bcells, hK]; rfl) (by rw [size_bcells, size_bcells, hN]; rfl) (one_bcells _) (one_bcells _) r4 r5 inv.r2 inv.r3 rfl rfl rfl rfl rfl rfl rfl rfl rfl rfl ?_
          go_wp2_with fail
          refine ret_arr2 Tryd.results9 g2 (g2 + 1) 25 26 (bcells K) (bcells N) Tryd.underlying25 nK Tryd.underlying26 nN ((inv.r2.drew.setRow _).setRowOther _ (by omega)) ((inv.r3.drew.setRowOther _ (by omega)).setRow _) rfl rfl rfl ⟨⟨K, N, hK, hN, rfl⟩, ?_⟩
          exact below_putRow (below_putRow inv.hb.drew (by omega) _) (by omega) _
    · go_wp2_with fail
      obtain ⟨K, hK, r4⟩ := inv.r4
      obtain ⟨N, hN, r5⟩ := inv.r5
      have nK : (Tryd.prog.info? 25).map (·.size) = some (bcells K).size := by rw [size_bcells K, hK]; exact Tryd.n25
      have nN : (Tryd.prog.info? 26).map (·.size) = some (bcells N).size := by rw [size_bcells N, hN]; exact Tryd.n26
      refine wp_region_out2 (by kernel_rfl) rfl (by kernel_rfl) (by kernel_rfl) (by kernel_rfl) (by kernel_rfl) (by kernel_rfl) (by kernel_rfl) (by kernel_rfl) rfl rfl rfl rfl 25 26 Tryd.underlying25 Tryd.underlying26 (.tmp 4) (.tmp 5) (.tmp 2) (.tmp 3) 34 35 (by decide) rfl rfl rfl rfl rfl rfl rfl rfl (g2 + 2) (g2 + 3) g2 (g2 + 1) (by omega) (by omega) 25 26 25 26 (bcells K) (bcells N) _ _ nK nN (by rw [size_bcells, size_bcells, hK]; rfl) (by rw [size_bcells, size_bcells, hN]; rfl) (one_bcells _) (one_bcells _) r4 r5 inv.r2 inv.r3 rfl rfl rfl rfl rfl rfl rfl rfl rfl rfl ?_
      go_wp2_with fail
      refine ret_arr2 Tryd.results9 g2 (g2 + 1) 25 26 (bcells K) (bcells N) Tryd.underlying25 nK Tryd.underlying26 nN ((inv.r2.drew.setRow _).setRowOther _ (by omega)) ((inv.r3.drew.setRowOther _ (by omega)).setRow _) rfl rfl rfl ⟨⟨K, N, hK, hN, rfl⟩, ?_⟩
      exact below_putRow (below_putRow inv.hb.drew (by omega) _) (by omega) _
end Go.Proofs.YtnooklfhpjfbmaaDoor
