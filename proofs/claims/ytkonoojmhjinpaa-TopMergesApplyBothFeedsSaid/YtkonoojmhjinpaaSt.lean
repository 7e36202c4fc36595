/- Contracts: SameTable (the answer true). -/
import Derived.Test.YtkonoojmhjinpaaLv
set_option linter.all false
namespace Go.Proofs.Ytkonoojmhjinpaa
open Go.RowKit Go.Fen
set_option linter.unusedVariables false
set_option maxHeartbeats 4000000

/-- what a table's lines say -/
def Ct (L : List Ln) : List (Int × List Cl) := L.map fun l => (l.n, l.r.R)
set_option maxRecDepth 20000 in
theorem sameTable_true (v v' : Value) (N : Int) (L L' : List Ln) (w : World) (hT : Tb w v N L) (hT' : Tb w v' N L') (hC : Ct L = Ct L') (hL : L.length ≤ 1000) : Calls Try.prog 13 #[v, v'] w fun e w' => e = .returned (.bool true) ∧ Below w.heap.size w w' := by
  obtain ⟨a, c, rfl, hcap, hLs⟩ := hT
  obtain ⟨a', c', rfl, hcap', hLs'⟩ := hT'
  obtain ⟨n, hn⟩ : ∃ n, n = L.length := ⟨_, rfl⟩
  have hn' : n = L'.length := by have := congrArg List.length hC; simp [Ct] at this; omega
  rw [← hn] at hL ⊢
  rw [← hn']
  obtain ⟨g, eg⟩ : ∃ g, g = w.heap.size := ⟨_, rfl⟩
  obtain ⟨W0, hW0⟩ : ∃ W, W = w.alloc (.cells #[.int .i64 N, .slice a n c] 38) := ⟨_, rfl⟩
  obtain ⟨W1, hW1⟩ : ∃ W, W = W0.alloc (.cells #[.int .i64 N, .slice a' n c'] 38) := ⟨_, rfl⟩
  have z0 : W0.heap.size = g + 1 := by rw [hW0, eg]; simp
  have b0 : Below w.heap.size w W1 := by rw [hW1, hW0]; exact ((Below.refl _ _).alloc (Nat.le_refl _) _).alloc (by simp) _
  have R0 : Row W1 g 38 #[.int .i64 N, .slice a n c] := by rw [hW1, hW0, eg]; exact (Row.new w 38 _).alloc _
  have R1 : Row W1 (g + 1) 38 #[.int .i64 N, .slice a' n c'] := by rw [hW1]; exact Row.new' 38 _ z0.symm
  have k00 : W1.cell? ⟨g, 0, none⟩ = some (.int .i64 N) := R0.cell 0
  have k01 : W1.cell? ⟨g, 1, none⟩ = some (.slice a n c) := R0.cell 1
  have k10 : W1.cell? ⟨g + 1, 0, none⟩ = some (.int .i64 N) := R1.cell 0
  have k11 : W1.cell? ⟨g + 1, 1, none⟩ = some (.slice a' n c') := R1.cell 1
  have HLS := Lib.hid (hLs.bel b0)
  have HLS' := Lib.hid (hLs'.bel b0)
  have HR0 := Lib.hid R0
  have HR1 := Lib.hid R1
  have HW0 := Lib.hid hW0
  have HW1 := Lib.hid hW1
  have EG := Lib.hid eg
  have Z0 := Lib.hid z0
  have HB := Lib.hid b0
  have HC := Lib.hid hC
  have HN := Lib.hid hn
  have HN' := Lib.hid hn'
  clear hW0 hW1 eg z0 b0 R0 R1 hLs hLs' hn hn' hcap hcap' hC
  go_enter Try.func13, Try.ntmps13
  go_wp2_with (first | ((with_reducible show wpList _ _ _ (Oper.mk _ (Op.box _ _) _ _ _ _ :: _) _ _); (first | (refine wpList_box_row rfl 38 (.tmp 0) rfl _ rfl g EG.out ?_; refine wpList_atE HW0.out ?_) | (refine wpList_box_row rfl 38 (.tmp 1) rfl _ rfl (g + 1) Z0.out.symm ?_; refine wpList_atE HW1.out ?_))))
  clear k00 k01 k10 k11
  go_loopw [5] (fun iv wr => ∃ (k : Nat), k ≤ n ∧ iv = .int .i64 k ∧ Below W1.heap.size W1 wr) (fun iv _ => n - (intOf iv).toNat)
  case atStart => exact ⟨0, by omega, rfl, Below.refl _ _⟩
  case round =>
    obtain ⟨k, hk, rfl, hb⟩ := hrel
    have R0w := HR0.out.below hb HR0.out.lt
    have R1w := HR1.out.below hb HR1.out.lt
    have k01 : wr.cell? ⟨g, 1, none⟩ = some (.slice a n c) := R0w.cell 1
    have k11 : wr.cell? ⟨g + 1, 1, none⟩ = some (.slice a' n c') := R1w.cell 1
    by_cases hkn : k < n
    · have ki : (k : Int) < (n : Int) := by omega
      obtain ⟨gl, ol, rfl, hgl, hc⟩ := HLS.out.1.form (by rw [← HN.out]; omega)
      obtain ⟨gm, om, rfl, hgm, hc'⟩ := HLS'.out.1.form (by rw [← HN'.out]; omega)
      obtain ⟨l, hl⟩ : ∃ f, L[k]? = some f := ⟨_, List.getElem?_eq_getElem (by rw [← HN.out]; omega)⟩
      obtain ⟨l', hl'⟩ : ∃ f, L'[k]? = some f := ⟨_, List.getElem?_eq_getElem (by rw [← HN'.out]; omega)⟩
      have hq : l.n = l'.n ∧ l.r.R = l'.r.R := by
        have := congrArg (·[k]?) HC.out
        simp only [Ct, List.getElem?_map, hl, hl', Option.map_some, Option.some.injEq, Prod.mk.injEq] at this
        exact this
      have hok := HLS.out.2 l (List.mem_of_getElem? hl)
      have hok' := HLS'.out.2 l' (List.mem_of_getElem? hl')
      have hrg := range_below (hc k l hl) hb hgl
      have hrg' := range_below (hc' k l' hl') hb hgm
      have c1 : wr.cell? ⟨gl, ol + k * 2 + 1, none⟩ = some (rvv l.r) := hrg 1 _ rfl
      have c1' : wr.cell? ⟨gm, om + k * 2 + 1, none⟩ = some (rvv l'.r) := hrg' 1 _ rfl
      have HCALL := Lib.hid (sameRow_any l.r l'.r (wr.drewN 1) ((hok.bel hb).bel (below_drewN (Below.refl _ _) 1)) ((hok'.bel hb).bel (below_drewN (Below.refl _ _) 1)))
      have HD := Lib.hid (show decide (l.r.R = l'.r.R) = true from decide_eq_true hq.2)
      have HH := Lib.hid (show Row wr g 38 _ ∧ Row wr (g + 1) 38 _ ∧ wr.rangeAt gl (ol + k * 2) (lnc l) ∧ wr.rangeAt gm (om + k * 2) (lnc l') ∧ gl < wr.heap.size ∧ gm < wr.heap.size ∧ Below W1.heap.size W1 wr ∧ l.n = l'.n from ⟨R0w, R1w, hrg, hrg', Nat.lt_of_lt_of_le hgl hb.size, Nat.lt_of_lt_of_le hgm hb.size, hb, hq.1⟩)
      have HKN := Lib.hid hkn
      clear hc hc' hl hl' hq hok hok' hrg hrg' hb R0w R1w hgl hgm hk hkn
      go_upto_region 6 with fail
      go_still_tail 12, (by kernel_rfl)
      change wpList _ _ _ _ _ wr.drew
      rw [show wr.drew = wr.drewN 1 from rfl]
      clear k01 k11 c1 c1'
      go_wp2_with (go_at_call 36; refine HCALL.out.mono ?_; rintro e w2 ⟨rfl, hb2⟩; rw [HD.out]; have k1 : w2.cell? ⟨g, 1, none⟩ = some (.slice (some ⟨gl, ol, none⟩) n c) := ((HH.out.1.below (below_drewN (Below.refl _ _) 1) HH.out.1.lt).below hb2 (by exact HH.out.1.lt)).cell 1; have k2 : w2.cell? ⟨g + 1, 1, none⟩ = some (.slice (some ⟨gm, om, none⟩) n c') := ((HH.out.2.1.below (below_drewN (Below.refl _ _) 1) HH.out.2.1.lt).below hb2 (by exact HH.out.2.1.lt)).cell 1; have k3 : w2.cell? ⟨gl, ol + k * 2, none⟩ = some (.int .i64 l.n) := by { have := range_below (range_below HH.out.2.2.1 (below_drewN (Below.refl wr.heap.size wr) 1) HH.out.2.2.2.2.1) hb2 HH.out.2.2.2.2.1 0 _ rfl; rw [Nat.add_zero] at this; exact this }; have k4 : w2.cell? ⟨gm, om + k * 2, none⟩ = some (.int .i64 l.n) := by { have := range_below (range_below HH.out.2.2.2.1 (below_drewN (Below.refl wr.heap.size wr) 1) HH.out.2.2.2.2.2.1) hb2 HH.out.2.2.2.2.2.1 0 _ rfl; rw [Nat.add_zero] at this; rw [HH.out.2.2.2.2.2.2.2]; exact this })
      go_quiet (fail)
      go_wp2_with fail
      go_roundw
      case rel => exact ⟨k + 1, HKN.out, by go_num, below_drewN (HH.out.2.2.2.2.2.2.1.trans (((below_drewN (Below.refl wr.heap.size wr) 1).trans hb2).mono HH.out.2.2.2.2.2.2.1.size)) _⟩
      case measure => have := HKN.out; simp [intOf] <;> omega
    · have ki : ¬ (k : Int) < (n : Int) := by omega
      have HBE := Lib.hid (HB.out.trans (hb.mono HB.out.size))
      clear hb R0w R1w
      go_wp2_with fail
      first | go_ret | ((try simp only [Exit.inBlock, Exit.then]); go_ret)
      exact ⟨rfl, HBE.out⟩
end Go.Proofs.Ytkonoojmhjinpaa
