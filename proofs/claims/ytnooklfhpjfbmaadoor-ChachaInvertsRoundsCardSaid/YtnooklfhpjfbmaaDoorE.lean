/- The contract of chacha.Xor. -/
import Derived.Test.YtnooklfhpjfbmaaDoorD
set_option linter.all false
namespace Go.Proofs.YtnooklfhpjfbmaaDoor
open Go.RowKit Go.Fen
set_option linter.unusedVariables false
set_option maxHeartbeats 400000

theorem made_any (a : Option Addr) (l : List (BitVec 8)) (c : Nat) (hl : l.length ≤ 9223372036854775807) (w : World) (h : Bs w a l) :
    Calls Tryd.prog 9 #[.slice a l.length c] w fun e w' => (∃ K N : List (BitVec 8), K.length = 32 ∧ N.length = 12 ∧ e = .returned (.tuple #[.agg (bcells K), .agg (bcells N)])) ∧ Below w.heap.size w w' := by
  rcases h with h | ⟨g, o, ha, hc⟩
  · exact made_some 0 0 c l hl w (by rw [h]; intro i hi; simp at hi) a (.inl h)
  · exact made_some g o c l hl w hc a (.inr ha)

/-- byte i of the key stream -/
def ks (K N : List (BitVec 8)) (i : Nat) : BitVec 8 := (blockL K N (BitVec.ofNat 32 (i / 64))).getD (i % 64) 0#8
/-- the first i bytes of l combined with the key stream -/
def xorO (K N l : List (BitVec 8)) : Nat → List (BitVec 8)
  | 0 => List.replicate l.length 0#8
  | i + 1 => (xorO K N l i).set i (l.getD i 0#8 ^^^ ks K N i)
def xorL (K N l : List (BitVec 8)) : List (BitVec 8) := xorO K N l l.length
theorem length_xorO (K N l : List (BitVec 8)) (i : Nat) : (xorO K N l i).length = l.length := by
  induction i with
  | zero => simp [xorO]
  | succ i ih => simp [xorO, ih]
theorem length_xorL (K N l : List (BitVec 8)) : (xorL K N l).length = l.length := length_xorO K N l _
theorem get_xorO (K N l : List (BitVec 8)) (n : Nat) (hn : n ≤ l.length) (i : Nat) (hi : i < n) : (xorO K N l n).getD i 0#8 = l.getD i 0#8 ^^^ ks K N i := by
  induction n with
  | zero => omega
  | succ n ih =>
    have hlen := length_xorO K N l n
    simp only [xorO, List.getD, List.getElem?_set]
    by_cases e : n = i
    · subst e
      rw [if_pos rfl, if_pos (by omega)]
      rfl
    · rw [if_neg e]
      exact ih (by omega) (by omega)
theorem get_xorL (K N l : List (BitVec 8)) (i : Nat) (hi : i < l.length) : (xorL K N l).getD i 0#8 = l.getD i 0#8 ^^^ ks K N i := get_xorO K N l _ (Nat.le_refl _) i hi

theorem Tryd.info5 : (Tryd.prog.info? 5).map (fun i => (i.zero, i.size, i.bytes)) = some (some (.int .u8 0), 1, 1) := by kernel_rfl
theorem madeB (n : Nat) : madeCells #[Value.int .u8 0] n = bcells (List.replicate n 0#8) := by
  apply Array.ext
  · simp [madeCells, bcells]
  · intro i h1 h2
    simp [madeCells, bcells, Nat.mod_one]

/-- What the loop of Xor keeps. -/
structure XInv (w0 w : World) (g3 g4 g7 g8 : Nat) (K N out blk : List (BitVec 8)) : Prop where
  r3 : Row w g3 25 (bcells K)
  r4 : Row w g4 26 (bcells N)
  r7 : Row w g7 5 (bcells out)
  r8 : Row w g8 33 (bcells blk)
  hb : Below w0.heap.size w0 w
theorem XInv.below {w0 w w' : World} {g3 g4 g7 g8 : Nat} {K N out blk : List (BitVec 8)} (h : XInv w0 w g3 g4 g7 g8 K N out blk) (hb : Below w.heap.size w w') : XInv w0 w' g3 g4 g7 g8 K N out blk :=
  ⟨h.r3.below hb h.r3.lt, h.r4.below hb h.r4.lt, h.r7.below hb h.r7.lt, h.r8.below hb h.r8.lt, h.hb.trans (hb.mono h.hb.size)⟩
theorem XInv.blk {w0 w : World} {g3 g4 g7 g8 : Nat} {K N out blk : List (BitVec 8)} (h : XInv w0 w g3 g4 g7 g8 K N out blk) (h3 : g3 < g4) (h4 : g4 < g7) (h7 : g7 < g8) (hB : w0.heap.size ≤ g8) (b : List (BitVec 8)) : XInv w0 (w.setRow g8 (bcells b)) g3 g4 g7 g8 K N out b :=
  ⟨h.r3.setRowOther _ (by omega), h.r4.setRowOther _ (by omega), h.r7.setRowOther _ (by omega), h.r8.setRow _, below_putRow h.hb hB _⟩
theorem XInv.put {w0 w : World} {g3 g4 g7 g8 : Nat} {K N out blk : List (BitVec 8)} (h : XInv w0 w g3 g4 g7 g8 K N out blk) (h3 : g3 < g4) (h4 : g4 < g7) (h7 : g7 < g8) (hB : w0.heap.size ≤ g7) (i : Nat) (b : BitVec 8) : XInv w0 (w.setCell ⟨g7, i, none⟩ (.int .u8 b.toNat)) g3 g4 g7 g8 K N (out.set i b) blk :=
  ⟨h.r3.setOther (by show g3 ≠ g7; omega) _, h.r4.setOther (by show g4 ≠ g7; omega) _, by rw [← set_bcells]; exact h.r7.set i _, h.r8.setOther (by show g8 ≠ g7; omega) _, h.hb.setCell hB _⟩

set_option maxHeartbeats 1000000 in
theorem xor_some (K N : List (BitVec 8)) (hK : K.length = 32) (hN : N.length = 12) (g o c : Nat) (l : List (BitVec 8)) (hl : l.length ≤ 1000000) (w : World) (hT : Tab w) (hc : ∀ i, i < l.length → w.cell? ⟨g, o + i, none⟩ = some (.int .u8 (l.getD i 0#8).toNat)) (a : Option Addr) (ha : l = [] ∨ a = some ⟨g, o, none⟩) :
    Calls Tryd.prog 11 #[.agg (bcells K), .agg (bcells N), .slice a l.length c] w fun e w' => ∃ g', e = .returned (.slice (some ⟨g', 0, none⟩) l.length l.length) ∧ Row w' g' 5 (bcells (xorL K N l)) ∧ Below w.heap.size w w' := by
  have nK : (Tryd.prog.info? 25).map (·.size) = some (bcells K).size := by rw [size_bcells K, hK]; exact Tryd.n25
  have nN : (Tryd.prog.info? 26).map (·.size) = some (bcells N).size := by rw [size_bcells N, hN]; exact Tryd.n26
  have h0 : 0 < w.heap.size := hT.lt
  have hxo : Hid (xorO K N l l.length = xorL K N l) := Lib.hid rfl
  obtain ⟨n, hn⟩ : ∃ n, n = l.length := ⟨_, rfl⟩
  rw [← hn] at hl hc hxo ⊢
  obtain ⟨g3, e3⟩ : ∃ g, g = w.heap.size := ⟨_, rfl⟩
  have inv0 : XInv w ((((w.alloc (.cells (bcells K) 25)).alloc (.cells (bcells N) 26)).alloc (.cells (madeCells #[.int .u8 0] n) 5)).alloc (.cells (bcells (List.replicate 64 0#8)) 33)) g3 (g3 + 1) (g3 + 2) (g3 + 3) K N (xorO K N l 0) (List.replicate 64 0#8) :=
    ⟨(((Row.new' _ _ e3).alloc _).alloc _).alloc _, ((Row.new' _ _ (by simp [e3])).alloc _).alloc _, by rw [madeB]; exact hn ▸ (Row.new' _ _ (by simp [e3])).alloc _, Row.new' _ _ (by simp [e3]),
      ((((Below.refl _ _).alloc (Nat.le_refl _) _).alloc (by simp) _).alloc (by simp; omega) _).alloc (by simp; omega) _⟩
  have hmk := run_make_row' (P := Tryd.prog) 22 5 (.int .u8 0) 1 Tryd.underlying22 Tryd.info5 rfl .i64 .i64 n (by omega) (by omega)
  have E3 := Lib.hid e3
  have Hn := Lib.hid hn
  have hle3 : w.heap.size ≤ g3 := by omega
  clear hn e3
  go_enter Tryd.func11, Tryd.ntmps11
  go_wp2_with (first | ((with_reducible show wpList _ _ _ _ _ _); first | (refine wpList_box_row rfl 25 (.tmp 0) rfl (bcells K) rfl g3 E3.out ?_) | (refine wpList_box_row rfl 26 (.tmp 1) rfl (bcells N) rfl (g3 + 1) (by simp [E3.out]) ?_) | (refine wpList_alloc_row rfl 33 rfl _ Tryd.z33 (g3 + 3) (by simp [E3.out]) ?_)))
  rw [show w.heap.size + 1 + 1 = g3 + 2 by rw [E3.out]]
  go_loopw [16] (fun i wr => ∃ k : Nat, k ≤ n ∧ i = .int .i64 k ∧ ∃ blk : List (BitVec 8), blk.length = 64 ∧ XInv w wr g3 (g3 + 1) (g3 + 2) (g3 + 3) K N (xorO K N l k) blk ∧ (k = 0 ∨ blk = blockL K N (BitVec.ofNat 32 ((k - 1) / 64)))) (fun i _ => n - (intOf i).toNat)
  case atStart => exact ⟨0, Nat.zero_le _, rfl, _, by simp, inv0, .inl rfl⟩
  case round =>
    clear inv0 hmk
    obtain ⟨k, hk, rfl, blk, lblk, inv, hblk⟩ := hrel
    by_cases hkn : k < n
    · have haa : a = some ⟨g, o, none⟩ := ha.resolve_left (fun h => by have := Hn.out; rw [h] at this; simp at this; omega)
      have hcg : g < w.heap.size := block_lt_of_cell (a := ⟨g, o + k, none⟩) (hc k hkn)
      have hck := (inv.hb.cell (p := ⟨g, o + k, none⟩) hcg).trans (hc k hkn)
      have Haa := Lib.hid haa
      have hlen := length_xorO K N l k
      have Hout : Hid (xorO K N l (k + 1) = (xorO K N l k).set k (l.getD k 0#8 ^^^ ks K N k)) := Lib.hid rfl
      have hok := get_bcells (xorO K N l k) k (by rw [hlen, ← Hn.out]; omega)
      have hx := u8_xor_bv (l.getD k 0#8) (ks K N k)
      have lb := length_blockL K N (BitVec.ofNat 32 (k / 64))
      have hks : Hid ((blockL K N (BitVec.ofNat 32 (k / 64))).getD (k % 64) 0#8 = ks K N k) := Lib.hid rfl
      clear haa hc hlen
      by_cases h64 : k % 64 = 0
      · have h64i : (k : Int) % 64 ≤ 0 := by omega
        have ek : (((BitVec.ofNat 32 (k / 64)).toNat : Nat) : Int) = (k : Int) / 64 := by
          rw [BitVec.toNat_ofNat, Nat.mod_eq_of_lt (by omega)]; omega
        have hcall : Hid (Calls Tryd.prog 12 #[.agg (bcells K), .agg (bcells N), .int .u32 ((k : Int) / 64)] wr fun e w' => e = .returned (.agg (bcells (blockL K N (BitVec.ofNat 32 (k / 64))))) ∧ Below wr.heap.size wr w') :=
          Lib.hid (ek ▸ block_any K N hK hN (BitVec.ofNat 32 (k / 64)) wr (hT.below inv.hb h0))
        obtain ⟨bk, hbk⟩ : ∃ b, b = blockL K N (BitVec.ofNat 32 (k / 64)) := ⟨_, rfl⟩
        have HB : Hid (bk = blockL K N (BitVec.ofNat 32 (k / 64))) := Lib.hid hbk
        rw [← hbk] at hcall lb hks
        clear hbk
        have nb : (Tryd.prog.info? 33).map (·.size) = some (bcells bk).size := by rw [size_bcells, lb]; exact Tryd.n33
        have Hlb := Lib.hid lb
        generalize l.getD k 0#8 ^^^ ks K N k = xk at *
        generalize l.getD k 0#8 = lk at *
        generalize ks K N k = kk at *
        generalize (xorO K N l k).getD k 0#8 = ok at *
        have Hok := Lib.hid hok
        have Hlblk := Lib.hid lblk
        clear h64 ek lb hblk hok lblk
        go_wp2_with (first | ((with_reducible show wpList _ _ _ _ _ _); first | (refine wpList_at_slice rfl 22 5 (.tmp 14) (.tmp 16) rfl Tryd.underlying22 Tryd.n5 a n c g o k rfl rfl Haa.out rfl hkn ?_) | (refine wpList_load_arr rfl 25 (.tmp 3) rfl g3 25 (bcells K) Tryd.underlying25 nK rfl inv.r3 ?_) | (refine wpList_load_arr rfl 26 (.tmp 4) rfl (g3 + 1) 26 (bcells N) Tryd.underlying26 nN rfl inv.r4 ?_)))
        refine hcall.out.mono ?_
        rintro e w2 ⟨rfl, hb2⟩
        have inv2 := inv.below hb2
        have inv3 := inv2.blk (by omega) (by omega) (by omega) (by omega) bk
        have sb : (bcells blk).size = (bcells bk).size := by rw [size_bcells, size_bcells, Hlblk.out, Hlb.out]
        have c8 := (inv3.r8.cell (k % 64)).trans (get_bcells _ (k % 64) (by rw [Hlb.out]; omega))
        rw [hks.out] at c8
        have c7 := (inv3.r7.cell k).trans Hok.out
        have f7 := inv3.r7.frozen k
        go_wp2_with (first | ((with_reducible show wpList _ _ _ _ _ _); first | (refine wpList_put_arr rfl 33 (.tmp 8) (.tmp 29) rfl rfl (g3 + 3) 33 _ (bcells bk) rfl rfl inv2.r8 nb sb (one_bcells _) ?_)))
        go_roundw
        case rel =>
          refine ⟨k + 1, by omega, by go_num, bk, Hlb.out, ?_, .inr (by rw [Nat.add_sub_cancel]; exact HB.out)⟩
          rw [Hout.out]
          exact inv3.put (by omega) (by omega) (by omega) (by omega) k _
        case measure => simp [intOf]; omega
      · have h64i : 1 ≤ (k : Int) % 64 := by omega
        have h64b : ((k : Int) % 64 == 0) = false := by rw [beq_eq_false_iff_ne]; omega
        have eblk : blk = blockL K N (BitVec.ofNat 32 (k / 64)) := by
          rcases hblk with h | h
          · omega
          · rw [h, show (k - 1) / 64 = k / 64 by omega]
        have HB : Hid (blk = blockL K N (BitVec.ofNat 32 (k / 64))) := Lib.hid eblk
        have c8 := (inv.r8.cell (k % 64)).trans (get_bcells _ (k % 64) (by rw [lblk]; omega))
        rw [HB.out, hks.out] at c8
        generalize l.getD k 0#8 ^^^ ks K N k = xk at *
        generalize l.getD k 0#8 = lk at *
        generalize ks K N k = kk at *
        have c7 := (inv.r7.cell k).trans hok
        have f7 := inv.r7.frozen k
        generalize (xorO K N l k).getD k 0#8 = ok at *
        have Hlblk := Lib.hid lblk
        clear h64 lb hblk hok lblk eblk
        go_wp2_with (first | ((with_reducible show wpList _ _ _ _ _ _); first | (refine wpList_at_slice rfl 22 5 (.tmp 14) (.tmp 16) rfl Tryd.underlying22 Tryd.n5 a n c g o k rfl rfl Haa.out rfl hkn ?_)))
        go_roundw
        case rel =>
          refine ⟨k + 1, by omega, by go_num, blk, Hlblk.out, ?_, .inr (by rw [Nat.add_sub_cancel]; exact HB.out)⟩
          rw [Hout.out]
          exact inv.put (by omega) (by omega) (by omega) (by omega) k _
        case measure => simp [intOf]; omega
    · have Hk : Hid (k = n) := Lib.hid (by omega)
      have hge : n ≤ k := by omega
      have e : xorO K N l k = xorL K N l := by rw [Hk.out]; exact hxo.out
      rw [e] at inv
      clear e hkn
      go_wp2
      go_ret
      exact ⟨g3 + 2, rfl, inv.r7, inv.hb⟩

theorem xor_any (K N : List (BitVec 8)) (hK : K.length = 32) (hN : N.length = 12) (a : Option Addr) (l : List (BitVec 8)) (c : Nat) (hl : l.length ≤ 1000000) (w : World) (hT : Tab w) (h : Bs w a l) :
    Calls Tryd.prog 11 #[.agg (bcells K), .agg (bcells N), .slice a l.length c] w fun e w' => ∃ g', e = .returned (.slice (some ⟨g', 0, none⟩) l.length l.length) ∧ Row w' g' 5 (bcells (xorL K N l)) ∧ Below w.heap.size w w' := by
  rcases h with h | ⟨g, o, ha, hc⟩
  · exact xor_some K N hK hN 0 0 c l hl w hT (by rw [h]; intro i hi; simp at hi) a (.inl h)
  · exact xor_some K N hK hN g o c l hl w hT hc a (.inr ha)
end Go.Proofs.YtnooklfhpjfbmaaDoor
