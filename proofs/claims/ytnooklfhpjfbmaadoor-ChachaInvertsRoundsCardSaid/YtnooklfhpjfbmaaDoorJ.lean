/- The contract of the reference's Initial. -/
import Derived.Test.YtnooklfhpjfbmaaDoorI
set_option linter.all false
namespace Go.Proofs.YtnooklfhpjfbmaaDoor
open Go.RowKit Go.Fen
set_option linter.unusedVariables false
set_option maxHeartbeats 400000

def c4 : List (BitVec 32) := [0x61707865#32, 0x3320646e#32, 0x79622d32#32, 0x6b206574#32]
def pre1 (K : List (BitVec 8)) (k : Nat) : List (BitVec 32) := c4 ++ (List.range k).map (kw K)
def pre2 (K N : List (BitVec 8)) (n : BitVec 32) (k : Nat) : List (BitVec 32) := (pre1 K 8 ++ [n]) ++ (List.range k).map (kw N)
theorem pre1_succ (K : List (BitVec 8)) (k : Nat) : pre1 K (k + 1) = pre1 K k ++ [kw K k] := by simp [pre1, List.range_succ]
theorem pre2_succ (K N : List (BitVec 8)) (n : BitVec 32) (k : Nat) : pre2 K N n (k + 1) = pre2 K N n k ++ [kw N k] := by simp [pre2, List.range_succ]
theorem pre2_all (K N : List (BitVec 8)) (n : BitVec 32) : pre2 K N n 3 = initL K N n := by
  rfl
theorem c4_vals : (#[Value.int .u32 1634760805, Value.int .u32 857760878, Value.int .u32 2036477234, Value.int .u32 1797285236] : Array Value).toList = wvals c4 := by rfl

theorem buf_rebase {B B0 : Nat} {e : TypeId} {v : Value} {n : Nat} {xs : List Value} {W0 W1 w : World} (h : Buf B e v n xs W1 w) (h2 : Below B0 W0 W1) (hB : B0 ≤ B) : Buf B0 e v n xs W0 w := by
  refine ⟨⟨h.1.1, ?_⟩, h2.trans (h.2.1.mono hB), Nat.le_trans hB h.2.2⟩
  rcases h.1.2 with h3 | ⟨g, cap, cur, hv, hbg, r⟩
  · exact .inl h3
  · exact .inr ⟨g, cap, cur, hv, by omega, r⟩

set_option maxHeartbeats 1000000 in
theorem rinitial_any (K N : List (BitVec 8)) (hK : K.length = 32) (hN : N.length = 12) (n : BitVec 32) (w : World) :
    Calls Tryd.prog 13 #[.agg (bcells K), .agg (bcells N), .int .u32 n.toNat] w fun e w' => ∃ v, e = .returned v ∧ Buf w.heap.size 35 v 16 (wvals (initL K N n)) w w' := by
  have nK : (Tryd.prog.info? 25).map (·.size) = some (bcells K).size := by rw [size_bcells K, hK]; exact Tryd.n25
  have nN : (Tryd.prog.info? 26).map (·.size) = some (bcells N).size := by rw [size_bcells N, hN]; exact Tryd.n26
  obtain ⟨g3, e3⟩ : ∃ g, g = w.heap.size := ⟨_, rfl⟩
  have rK0 : Row ((w.alloc (.cells (bcells K) 25)).alloc (.cells (bcells N) 26)) g3 25 (bcells K) := Row.alloc (Row.new' _ _ e3) _
  have rN0 : Row ((w.alloc (.cells (bcells K) 25)).alloc (.cells (bcells N) 26)) (g3 + 1) 26 (bcells N) := Row.new' _ _ (by simp [e3])
  have bel : Below w.heap.size w ((w.alloc (.cells (bcells K) 25)).alloc (.cells (bcells N) 26)) := ((Below.refl _ _).alloc (Nat.le_refl _) _).alloc (by simp) _
  obtain ⟨W1, hW1⟩ : ∃ W1, W1 = (w.alloc (.cells (bcells K) 25)).alloc (.cells (bcells N) 26) := ⟨_, rfl⟩
  obtain ⟨B, hB⟩ : ∃ B, B = W1.heap.size := ⟨_, rfl⟩
  have hB2 : g3 + 2 = B := by rw [hB, hW1, e3]; simp
  rw [← hW1] at rK0 rN0 bel
  have b0 : Buf B 35 (.slice (some ⟨B, 0, none⟩) 4 4) (4 + 0) (wvals (pre1 K 0)) W1 (W1.alloc (.cells #[.int .u32 1634760805, .int .u32 857760878, .int .u32 2036477234, .int .u32 1797285236] 35)) := by
    have := Buf.lit (e := 35) (Below.refl B W1) (Nat.le_of_eq hB) #[.int .u32 1634760805, .int .u32 857760878, .int .u32 2036477234, .int .u32 1797285236] 4 rfl (by decide) B hB
    rw [c4_vals] at this
    simpa [pre1] using this
  have HW1 := Lib.hid hW1
  have HB := Lib.hid hB
  have HB2 := Lib.hid hB2
  have E3 := Lib.hid e3
  have Bel := Lib.hid bel
  have hg : g3 < B := by omega
  have hg1 : g3 + 1 < B := by omega
  have hwB : w.heap.size ≤ B := by omega
  clear hW1 hB hB2 e3 bel
  go_enter Tryd.func13, Tryd.ntmps13
  go_wp2_with (first | ((with_reducible show wpList _ _ _ (Oper.mk _ (Op.box _ _) _ _ _ _ :: _) _ _); first | (refine wpList_box_row rfl 25 (.tmp 0) rfl (bcells K) rfl g3 E3.out ?_) | (refine wpList_box_row rfl 26 (.tmp 1) rfl (bcells N) rfl (g3 + 1) (by simp [E3.out]) ?_; rw [← HW1.out])))
  rw [← HB.out]
  generalize W1.alloc (.cells #[.int .u32 1634760805, .int .u32 857760878, .int .u32 2036477234, .int .u32 1797285236] 35) = W2 at *
  go_loopw [7, 8] (fun v i wr => ∃ k : Nat, k ≤ 8 ∧ i = .int .i64 k ∧ Buf B 35 v (4 + k) (wvals (pre1 K k)) W1 wr) (fun _ i _ => 8 - (intOf i).toNat)
  case atStart => exact ⟨0, Nat.zero_le _, rfl, b0⟩
  case round =>
    clear b0
    obtain ⟨k, hk, rfl, hb⟩ := hrel
    by_cases hlt : k < 8
    · have rK : Row wr g3 25 (bcells K) := rK0.below hb.2.1 hg
      have c0 := (rK.cell (4 * k)).trans (get_bcells K (4 * k) (by omega))
      have c1 := (rK.cell (4 * k + 1)).trans (get_bcells K (4 * k + 1) (by omega))
      have c2 := (rK.cell (4 * k + 2)).trans (get_bcells K (4 * k + 2) (by omega))
      have c3 := (rK.cell (4 * k + 3)).trans (get_bcells K (4 * k + 3) (by omega))
      have hw : Hid (∀ l c, 4 ≤ l → Calls Tryd.prog 18 #[.slice (some ⟨g3, 4 * k, none⟩) l c] wr fun e w' => e = .returned (.int .u32 (kw K k).toNat) ∧ ∃ n, w' = wr.drewN n) :=
        Lib.hid fun l c hl => rword_any _ _ l c _ _ _ _ wr hl c0 c1 c2 c3
      have Hb := Lib.hid hb
      have kk : (k : Int) < 8 := by omega
      clear c0 c1 c2 c3 rK hb
      have hs := pre1_succ K k
      have HS := Lib.hid hs
      clear hs
      go_wp2_with (first | ((with_reducible show wpList _ _ _ (Oper.mk _ (Op.slice _ _ _ _ _) _ _ _ _ :: _) _ _); refine wpList_slice_lohi rfl 25 (.tmp 3) (.tmp 17) (.tmp 20) rfl 32 5 Tryd.underlying25 Tryd.n5 g3 (4 * k) (4 * k + 4) rfl rfl rfl (by omega) (by omega) (by omega) (by omega) (by omega) ?_) | (go_at_call 18; refine (hw.out _ _ (by omega)).mono ?_; rintro e w' ⟨rfl, nq, rfl⟩) | ((with_reducible show wpList _ _ _ (Oper.mk _ (Op.call _) _ _ _ _ :: _) _ _); refine wpList_push rfl (.tmp 15) (.tmp 23) 38 rfl B 35 (.int .u32 0) 4 Tryd.underlying38 Tryd.info35 rfl u7 (4 + k) _ rfl W1 (wr.drewN nq) _ (.int .u32 (kw K k).toNat) rfl rfl (Hb.out.drewN nq) rfl (by unfold maxLen; omega) (by omega) (fun v' w' hv' _ => ?_)))
      go_roundw
      case rel => exact ⟨k + 1, by omega, by go_num, by rw [HS.out, ← push_wvals]; exact hv'⟩
      case measure => simp [intOf]; omega
    · have hb8 : Buf B 35 u7 12 (wvals (pre1 K 8)) W1 wr := by
        have e : k = 8 := by omega
        rw [e] at hb
        exact hb
      have hge : 8 ≤ k := by omega
      clear hb hlt
      have HS : Hid (wvals (pre1 K 8) ++ [.int .u32 (n.toNat : Int)] = wvals (pre2 K N n 0)) := Lib.hid (by rw [push_wvals]; simp [pre2])
      have Hb := Lib.hid hb8
      clear hb8
      go_wp2_with (first | ((with_reducible show wpList _ _ _ (Oper.mk _ (Op.call _) _ _ _ _ :: _) _ _); (refine wpList_push rfl (.tmp 25) (.tmp 27) 38 rfl B 35 (.int .u32 0) 4 Tryd.underlying38 Tryd.info35 rfl u7 12 _ rfl W1 wr _ (.int .u32 n.toNat) rfl rfl Hb.out rfl (by decide) (by decide) (fun v' w' hv' _ => ?_))))
      rw [HS.out] at hv'
      clear HS Hb
      go_loopw [7, 9] (fun v i wr => ∃ k : Nat, k ≤ 3 ∧ i = .int .i64 k ∧ Buf B 35 v (13 + k) (wvals (pre2 K N n k)) W1 wr) (fun _ i _ => 3 - (intOf i).toNat)
      case atStart => exact ⟨0, Nat.zero_le _, rfl, hv'⟩
      case round =>
        clear hv' hge hk
        obtain ⟨k', hk, rfl, hb⟩ := hrel
        by_cases hlt : k' < 3
        · have rN : Row wr (g3 + 1) 26 (bcells N) := rN0.below hb.2.1 hg1
          have c0 := (rN.cell (4 * k')).trans (get_bcells N (4 * k') (by omega))
          have c1 := (rN.cell (4 * k' + 1)).trans (get_bcells N (4 * k' + 1) (by omega))
          have c2 := (rN.cell (4 * k' + 2)).trans (get_bcells N (4 * k' + 2) (by omega))
          have c3 := (rN.cell (4 * k' + 3)).trans (get_bcells N (4 * k' + 3) (by omega))
          have hw : Hid (∀ l c, 4 ≤ l → Calls Tryd.prog 18 #[.slice (some ⟨g3 + 1, 4 * k', none⟩) l c] wr fun e w' => e = .returned (.int .u32 (kw N k').toNat) ∧ ∃ n, w' = wr.drewN n) :=
            Lib.hid fun l c hl => rword_any _ _ l c _ _ _ _ wr hl c0 c1 c2 c3
          have Hb := Lib.hid hb
          have kk : (k' : Int) < 3 := by omega
          clear c0 c1 c2 c3 rN hb
          have hs := pre2_succ K N n k'
          have HS := Lib.hid hs
          clear hs
          go_wp2_with (first | ((with_reducible show wpList _ _ _ (Oper.mk _ (Op.slice _ _ _ _ _) _ _ _ _ :: _) _ _); refine wpList_slice_lohi rfl 26 (.tmp 4) (.tmp 35) (.tmp 38) rfl 12 5 Tryd.underlying26 Tryd.n5 (g3 + 1) (4 * k') (4 * k' + 4) rfl rfl rfl (by omega) (by omega) (by omega) (by omega) (by omega) ?_) | (go_at_call 18; refine (hw.out _ _ (by omega)).mono ?_; rintro e w' ⟨rfl, nq, rfl⟩) | ((with_reducible show wpList _ _ _ (Oper.mk _ (Op.call _) _ _ _ _ :: _) _ _); refine wpList_push rfl (.tmp 33) (.tmp 41) 38 rfl B 35 (.int .u32 0) 4 Tryd.underlying38 Tryd.info35 rfl u7 (13 + k') _ rfl W1 (wr.drewN nq) _ (.int .u32 (kw N k').toNat) rfl rfl (Hb.out.drewN nq) rfl (by unfold maxLen; omega) (by omega) (fun v' w' hv' _ => ?_)))
          go_roundw
          case rel => exact ⟨k' + 1, by omega, by go_num, by rw [HS.out, ← push_wvals]; exact hv'⟩
          case measure => simp [intOf]; omega
        · have hb3 : Buf B 35 u7 16 (wvals (initL K N n)) W1 wr := by
            have e : k' = 3 := by omega
            rw [e, pre2_all] at hb
            exact hb
          clear hb
          go_wp2_with fail
          go_ret
          exact ⟨_, rfl, buf_rebase hb3 Bel.out hwB⟩
end Go.Proofs.YtnooklfhpjfbmaaDoor
