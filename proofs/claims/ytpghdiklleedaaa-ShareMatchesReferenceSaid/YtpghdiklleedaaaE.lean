/- The contracts of noise and masked. -/
import Derived.Test.YtpghdiklleedaaaD
set_option linter.all false
namespace Go.Proofs.Ytpghdiklleedaaa
open Go.RowKit Go.Fen Gf
set_option linter.unusedVariables false
set_option maxHeartbeats 400000

/-- t steps of Horner's rule from the top coefficient on (without the constant one) -/
def nz (r : List (BitVec 8)) (frm n : Nat) (x : BitVec 8) : Nat → BitVec 8
  | 0 => 0#8
  | t + 1 => mul (nz r frm n x t ^^^ r.getD (frm + (n - 1 - t)) 0#8) x
/-- what is added to byte i -/
def noiseV (r : List (BitVec 8)) (need i : Nat) (x : BitVec 8) : BitVec 8 := nz r (i * (need - 1)) (need - 1) x (need - 1)

theorem noise_any (g : Nat) (ar : Option Addr) (r : List (BitVec 8)) (cr need i : Nat) (x : BitVec 8) (h1 : 1 ≤ need) (h2 : need ≤ 255) (hi : i ≤ 1000000) (hr : r.length ≤ 1000000000) (w : World) (hT : TB w g) (B0 : Bs w ar r) :
    Calls Try.prog 39 #[.pointer (some ⟨g, 0, none⟩), .slice ar r.length cr, .int .i64 need, .int .i64 i, .int .u8 x.toNat] w fun e w' => e = .returned (.int .u8 (noiseV r need i x).toNat) ∧ ∃ n, w' = w.drewN n := by
  obtain ⟨n, hn⟩ : ∃ n, need = n + 1 := ⟨need - 1, by omega⟩
  subst hn
  have hv : Hid (noiseV r (n + 1) i x = nz r (i * n) n x n) := Lib.hid (by simp [noiseV])
  rw [hv.out]
  have him : i * n ≤ 254 * 1000000 := by
    have := Nat.mul_le_mul hi (show n ≤ 254 by omega)
    omega
  obtain ⟨f, hf⟩ : ∃ f, f = i * n := ⟨_, rfl⟩
  have hfi : (i : Int) * (((n + 1 : Nat) : Int) - 1) = (f : Int) := by rw [show (((n + 1 : Nat) : Int) - 1) = (n : Int) by omega, hf]; simp
  rw [← hf] at him ⊢
  have n1 : (((n + 1 : Nat) : Int) - 2) = (n : Int) - 1 := by omega
  obtain ⟨need, hneed⟩ : ∃ d : Nat, d = n + 1 := ⟨_, rfl⟩
  rw [← hneed] at hfi n1 h1 h2 ⊢
  obtain ⟨lr, hlr⟩ : ∃ d : Nat, d = r.length := ⟨_, rfl⟩
  have LR := Lib.hid hlr
  have HN := Lib.hid hneed
  have nle : (n : Int) ≤ 254 := by omega
  rw [← hlr] at hr ⊢
  have HB := Lib.hid B0
  have HT := Lib.hid hT
  have fle : (f : Int) ≤ 254000000 := by omega
  have ile : (i : Int) ≤ 1000000 := by omega
  clear hlr B0 hT hf hv him hneed
  go_enter Try.func39, Try.ntmps39
  go_wp2_with fail
  go_loopw [11, 13] (fun vo vj wr => ∃ t : Nat, t ≤ n ∧ vj = .int .i64 ((n : Int) - 1 - t) ∧ vo = .int .u8 (nz r f n x t).toNat ∧ ∃ q, wr = w.drewN q) (fun _ vj _ => (intOf vj + 1).toNat)
  case atStart => exact ⟨0, by omega, by simp, rfl, 0, rfl⟩
  case round =>
    obtain ⟨t, ht, rfl, rfl, q, rfl⟩ := hrel
    by_cases htn : t < n
    · obtain ⟨s, hs⟩ : ∃ s, s = n - 1 - t := ⟨_, rfl⟩
      have hsi : (n : Int) - 1 - t = (s : Int) := by omega
      have hstep : nz r f n x (t + 1) = mul (nz r f n x t ^^^ r.getD (f + s) 0#8) x := by rw [nz, hs]
      have hnext : (n : Int) - 1 - ((t + 1 : Nat) : Int) = (s : Int) - 1 := by omega
      have hxor := u8_xor_bv (nz r f n x t) (r.getD (f + s) 0#8)
      have hmul := fun W h => tmul_any g (nz r f n x t ^^^ r.getD (f + s) 0#8) x W h
      rw [← hstep] at hmul
      generalize hO : nz r f n x (t + 1) = o' at *
      have HO := Lib.hid hO
      clear hO
      rw [hsi]
      have sle : (s : Int) ≤ 254 := by omega
      have HX := Lib.hid hnext
      have HS := Lib.hid hs
      by_cases hin : f + s < lr
      · obtain ⟨gr, or', er, kr⟩ : ∃ g o, ar = some ⟨g, o, none⟩ ∧ w.cell? ⟨g, o + (f + s), none⟩ = some (.int .u8 (r.getD (f + s) 0#8).toNat) := by
          rcases HB.out with h | ⟨g, o, e, hc⟩
          · have := LR.out; rw [h] at this; simp at this; omega
          · exact ⟨g, o, e, hc (f + s) (by rw [← LR.out]; exact hin)⟩
        subst er
        have hini : (f : Int) + (s : Int) < (lr : Int) := by omega
        generalize nz r f n x t ^^^ r.getD (f + s) 0#8 = z at *
        generalize r.getD (f + s) 0#8 = c at *
        generalize nz r f n x t = o at *
        have HM := Lib.hid hmul
        clear hmul hs hsi hstep hnext
        go_wp2_with fail
        refine (HM.out _ (HT.out.drewN _)).mono ?_
        rintro e w' ⟨rfl, m, rfl⟩
        go_wp2_with fail
        go_roundw
        case rel => exact ⟨t + 1, by omega, by rw [HX.out], by rw [HO.out], q + m, by first | rfl | rw [World.drewN_drewN]⟩
        case measure => simp [intOf] <;> omega
      · have h0 : r.getD (f + s) 0#8 = 0#8 := by
          have := LR.out
          simp only [List.getD]
          rw [List.getElem?_eq_none (by omega)]
          rfl
        have hini : ¬ (f : Int) + (s : Int) < (lr : Int) := by omega
        rw [h0] at hxor hmul hstep
        generalize nz r f n x t ^^^ 0#8 = z at *
        generalize nz r f n x t = o at *
        have HM := Lib.hid hmul
        have hxor' : bits BinOp.xor IntKind.u8 (o.toNat : Int) 0 = (z.toNat : Int) := hxor
        clear hmul hs hsi hstep hnext hxor
        go_wp2_with fail
        refine (HM.out _ (HT.out.drewN _)).mono ?_
        rintro e w' ⟨rfl, m, rfl⟩
        go_wp2_with fail
        go_roundw
        case rel => exact ⟨t + 1, by omega, by rw [HX.out], by rw [HO.out], q + m, by first | rfl | rw [World.drewN_drewN]⟩
        case measure => simp [intOf] <;> omega
    · have e : nz r f n x t = nz r f n x n := by rw [show t = n by omega]
      rw [e]
      rw [show (n : Int) - 1 - t = -1 by omega]
      generalize hO : nz r f n x n = o at *
      have HO := Lib.hid hO
      clear hO e
      go_wp2_with fail
      go_ret
      exact ⟨by rw [HO.out]; rfl, q, rfl⟩

/-- the first k of n bytes f 0, f 1, .. are laid, the others are zero -/
def fillB (f : Nat → BitVec 8) (n k : Nat) : List (BitVec 8) := (List.range n).map fun i => if i < k then f i else 0#8
theorem length_fillB (f : Nat → BitVec 8) (n k : Nat) : (fillB f n k).length = n := by simp [fillB]
theorem fillB_zero (f : Nat → BitVec 8) (n : Nat) : fillB f n 0 = List.replicate n 0#8 := by
  apply List.ext_getElem
  · simp [fillB]
  · intro i h1 h2; simp [fillB]
theorem fillB_succ (f : Nat → BitVec 8) (n k : Nat) : fillB f n (k + 1) = (fillB f n k).set k (f k) := by
  apply List.ext_getElem
  · simp [fillB]
  · intro i h1 h2
    simp only [fillB, List.getElem_map, List.getElem_range, List.getElem_set]
    by_cases e : k = i
    · subst e; simp
    · rw [if_neg e]
      by_cases h : i < k
      · rw [if_pos h, if_pos (by omega)]
      · rw [if_neg h, if_neg (by omega)]
theorem fillB_all (f : Nat → BitVec 8) (n : Nat) : fillB f n n = (List.range n).map f := by
  apply List.ext_getElem
  · simp [fillB]
  · intro i h1 h2
    have hi : i < n := by simpa [fillB] using h1
    simp [fillB, hi]

/-- the bytes of a masked share -/
def maskL (b r : List (BitVec 8)) (need : Nat) (x : BitVec 8) : List (BitVec 8) := (List.range b.length).map fun i => b.getD i 0#8 ^^^ noiseV r need i x
theorem length_maskL (b r : List (BitVec 8)) (need : Nat) (x : BitVec 8) : (maskL b r need x).length = b.length := by simp [maskL]

theorem Try.info5 : (Try.prog.info? 5).map (fun i => (i.zero, i.size, i.bytes)) = some (some (.int .u8 0), 1, 1) := by kernel_rfl
theorem Try.n33 : (Try.prog.info? 33).map (·.size) = some 2 := by kernel_rfl
theorem Try.z33 : (Try.prog.info? 33).bind (·.zero) = some (.agg #[.int .u8 0, .slice none 0 0]) := by kernel_rfl
theorem madeB (n : Nat) : madeCells #[Value.int .u8 0] n = bcells (List.replicate n 0#8) := by
  apply Array.ext
  · simp [madeCells, bcells]
  · intro i h1 h2
    simp [madeCells, bcells, Nat.mod_one]

theorem one_share (x : Int) (a : Option Addr) (l c : Nat) : (#[Value.int .u8 x, .slice a l c] : Array Value).all (·.oneCell') = true := by simp [Value.oneCell']

set_option maxHeartbeats 1000000 in
theorem masked_any (g : Nat) (ab ar : Option Addr) (b r : List (BitVec 8)) (cb cr need : Nat) (x : BitVec 8) (h1 : 1 ≤ need) (h2 : need ≤ 255) (hb : b.length ≤ 1000000) (hr : r.length ≤ 1000000000) (w : World) (hT : TB w g) (B1 : Bs w ab b) (B0 : Bs w ar r) :
    Calls Try.prog 30 #[.pointer (some ⟨g, 0, none⟩), .slice ab b.length cb, .slice ar r.length cr, .int .i64 need, .int .u8 x.toNat] w fun e w' =>
      ∃ g', e = .returned (.agg #[.int .u8 x.toNat, .slice (some ⟨g', 0, none⟩) b.length b.length]) ∧ w.heap.size ≤ g' ∧ Row w' g' 5 (bcells (maskL b r need x)) ∧ Below w.heap.size w w' := by
  have hm : Hid (maskL b r need x = fillB (fun i => b.getD i 0#8 ^^^ noiseV r need i x) b.length b.length) := Lib.hid (fillB_all _ _).symm
  rw [hm.out]
  have hno := fun i (hi : i ≤ 1000000) W (h : TB W g) (h0 : Bs W ar r) => noise_any g ar r cr need i x h1 h2 hi hr W h h0
  obtain ⟨n, hn⟩ : ∃ n, n = b.length := ⟨_, rfl⟩
  obtain ⟨lr, hlr⟩ : ∃ d : Nat, d = r.length := ⟨_, rfl⟩
  rw [← hlr] at hno hr ⊢
  rw [← hn] at hb ⊢
  have N := Lib.hid hn
  obtain ⟨g1, eg⟩ : ∃ g, g = w.heap.size := ⟨_, rfl⟩
  have hgT : g < g1 := by rw [eg]; exact Row.lt hT
  rw [← eg]
  have rv0 : Row ((w.alloc (.cells #[.int .u8 0, .slice none 0 0] 33)).alloc (.cells (bcells (List.replicate n 0#8)) 5)) g1 33 #[.int .u8 0, .slice none 0 0] := Row.alloc (Row.new' _ _ eg) _
  have ro0 : Row ((w.alloc (.cells #[.int .u8 0, .slice none 0 0] 33)).alloc (.cells (bcells (List.replicate n 0#8)) 5)) (g1 + 1) 5 (bcells (fillB (fun i => b.getD i 0#8 ^^^ noiseV r need i x) n 0)) := by rw [fillB_zero]; exact Row.new' _ _ (by simp [eg])
  have bel0 : Below g1 w ((w.alloc (.cells #[.int .u8 0, .slice none 0 0] 33)).alloc (.cells (bcells (List.replicate n 0#8)) 5)) := by rw [eg]; exact ((Below.refl _ _).alloc (Nat.le_refl _) _).alloc (by simp) _
  obtain ⟨W1, hW1⟩ : ∃ W, W = (w.alloc (.cells #[.int .u8 0, .slice none 0 0] 33)).alloc (.cells (bcells (List.replicate n 0#8)) 5) := ⟨_, rfl⟩
  rw [← hW1] at rv0 ro0 bel0
  have HW1 := Lib.hid hW1
  have EG := Lib.hid eg
  have HN := Lib.hid hno
  have HB1 := Lib.hid B1
  have HB0 := Lib.hid B0
  have HT := Lib.hid hT
  have hmk := run_make_row' (P := Try.prog) 27 5 (.int .u8 0) 1 Try.underlying27 Try.info5 rfl .i64 .i64 n (by omega) (by omega)
  rw [madeB] at hmk
  have wle : w.heap.size ≤ g1 := Nat.le_of_eq eg.symm
  clear hn hlr eg hW1 hno B1 B0 hT hm
  go_enter Try.func30, Try.ntmps30
  go_wp2_with (first | ((with_reducible show wpList _ _ _ (Oper.mk _ (Op.alloc _) _ _ _ _ :: _) _ _); refine wpList_alloc_row rfl 33 rfl _ Try.z33 g1 EG.out ?_))
  rw [show w.heap.size + 1 = g1 + 1 by rw [EG.out], ← HW1.out]
  obtain ⟨F, hF⟩ : ∃ F : Nat → BitVec 8, F = fun i => b.getD i 0#8 ^^^ noiseV r need i x := ⟨_, rfl⟩
  rw [← hF] at ro0
  have HF := Lib.hid hF
  clear hF
  generalize W1 = W2 at *
  go_loopw [19] (fun i wr => ∃ k : Nat, k ≤ n ∧ i = .int .i64 k ∧ Row wr g1 33 #[.int .u8 0, .slice none 0 0] ∧ Row wr (g1 + 1) 5 (bcells (fillB F n k)) ∧ Below g1 w wr) (fun i _ => n - (intOf i).toNat)
  case atStart => exact ⟨0, by omega, rfl, rv0, ro0, bel0⟩
  case round =>
    clear rv0 ro0 bel0 hmk
    obtain ⟨k, hk, rfl, rv, ro, hb⟩ := hrel
    by_cases hkn : k < n
    · obtain ⟨gb, ob, eb, kb⟩ : ∃ g o, ab = some ⟨g, o, none⟩ ∧ w.cell? ⟨g, o + k, none⟩ = some (.int .u8 (b.getD k 0#8).toNat) := by
        rcases HB1.out with h | ⟨g, o, e, hc⟩
        · have := N.out; rw [h] at this; simp at this; omega
        · exact ⟨g, o, e, hc k (by rw [← N.out]; exact hkn)⟩
      subst eb
      have kb' := (hb.cell (p := ⟨gb, ob + k, none⟩) (by have := block_lt_of_cell (a := ⟨gb, ob + k, none⟩) kb; rw [EG.out]; exact this)).trans kb
      have ki : (k : Int) < (n : Int) := by omega
      have hcall := HN.out k (by omega) wr (HT.out.below hb hgT) (HB0.out.below hb (by rw [EG.out]; exact Nat.le_refl _))
      have hxor := u8_xor_bv (b.getD k 0#8) (noiseV r need k x)
      have hFk : Hid (F k = b.getD k 0#8 ^^^ noiseV r need k x) := Lib.hid (by rw [HF.out])
      have hS : Hid (fillB F n (k + 1) = (fillB F n k).set k (F k)) := Lib.hid (fillB_succ F n k)
      rw [← hFk.out] at hxor
      have lf := length_fillB F n k
      have cf := (get_bcells (fillB F n k) k (by rw [lf]; exact hkn))
      have co := (ro.cell k).trans cf
      have fo := ro.frozen k
      generalize (fillB F n k).getD k 0#8 = old at *
      generalize F k = z at *
      generalize noiseV r need k x = m at *
      generalize b.getD k 0#8 = c at *
      have HC := Lib.hid hcall
      have RV := Lib.hid rv
      have RO := Lib.hid ro
      have Hb := Lib.hid hb
      clear hcall rv ro hb lf cf kb
      go_wp2_with fail
      refine HC.out.mono ?_
      rintro e w' ⟨rfl, q, rfl⟩
      go_wp2_with fail
      go_roundw
      case rel =>
        refine ⟨k + 1, by omega, by go_num, Row.setOther (RV.out.drewN q) (by show g1 ≠ g1 + 1; omega) _, ?_, (below_drewN Hb.out q).setCell (by show g1 ≤ g1 + 1; omega) _⟩
        rw [hS.out, ← set_bcells]
        exact (RO.out.drewN q).set k _
      case measure => simp [intOf] <;> omega
    · have hkn' : k = n := by omega
      rw [hkn'] at ro
      have hge : ¬ ((k : Int) < (n : Int)) := by omega
      have RV := Lib.hid rv
      have RO := Lib.hid ro
      have Hb := Lib.hid hb
      clear rv ro hb hkn' hkn hk
      go_wp2_with (first | ((with_reducible show wpList _ _ _ (Oper.mk _ (Op.store _ _ _) _ _ _ _ :: _) _ _); refine wpList_put_arr rfl 33 (.tmp 10) (.tmp 38) rfl rfl g1 33 _ #[.int .u8 x.toNat, .slice (some ⟨g1 + 1, 0, none⟩) n n] rfl rfl RV.out Try.n33 rfl (one_share _ _ _ _) ?_))
      refine bodyPost_ret (results_cell_row (p := 10) (ty := 33) rfl _ _ g1 33 #[.int .u8 x.toNat, .slice (some ⟨g1 + 1, 0, none⟩) n n] (0, 0) _ rfl (Row.setRow RV.out _) Try.underlying33 rfl Try.n33) rfl ?_
      refine ⟨g1 + 1, rfl, by omega, ?_, below_putRow (Hb.out) (Nat.le_refl _) _⟩
      have ho := Row.setRowOther (g' := g1) RO.out #[.int .u8 x.toNat, .slice (some ⟨g1 + 1, 0, none⟩) n n] (by omega)
      rw [HF.out] at ho
      exact ho
end Go.Proofs.Ytpghdiklleedaaa
