/- Contracts: Rows. -/
import Derived.Test.YtkonoojmhjinpaaK3
set_option linter.all false
namespace Go.Proofs.Ytkonoojmhjinpaa
open Go.RowKit Go.Fen
set_option linter.unusedVariables false
set_option maxHeartbeats 4000000

/-- raw values that came in -/
structure Rr where
  a : Option Addr
  c : Nat
  V : List Vl
def rrc (r : Rr) : List Value := [.slice r.a r.V.length r.c]
def Raw (w : World) (a : Option Addr) (L : List Rr) : Prop := Ls 1 rrc w a L ∧ ∀ r ∈ L, Ls 3 vlc w r.a r.V ∧ r.V.length ≤ 9223372036854775807
def RetRws (m : Nat) (e : Ending) (w : World) : Prop := ∃ (a : Option Addr) (L : List Rv) (c : Nat), e = .returned (.slice a L.length c) ∧ L.length ≤ m ∧ Rws w a L

set_option maxRecDepth 20000 in
theorem rows_any (m : Nat) (v : Value) (a2 : Option Addr) (V : List Rr) (n2 c2 nn : Nat) (w : World) (hm : m ≤ 1000) (hS : Sch m w v) (hn2 : n2 = V.length) (h26 : n2 ≤ 9223372036854775807) (hnn : nn ≤ 1000) (hV : Raw w a2 V) : Calls Try.prog 19 #[v, .slice a2 n2 c2, .int .i64 nn] w fun e w' => RetRws nn e w' ∧ Below w.heap.size w w' := by
  have HS := Lib.hid hS
  obtain ⟨a, F, c, nx, rfl, _⟩ := hS
  obtain ⟨n, hn⟩ : ∃ n, n = F.length := ⟨_, rfl⟩
  rw [← hn] at HS ⊢
  obtain ⟨g, eg⟩ : ∃ g, g = w.heap.size := ⟨_, rfl⟩
  obtain ⟨W0, hW0⟩ : ∃ W, W = w.alloc (.cells #[.slice a n c, .int .i64 nx] 31) := ⟨_, rfl⟩
  have z0 : W0.heap.size = g + 1 := by rw [hW0, eg]; simp
  obtain ⟨W1, hW1⟩ : ∃ W, W = W0.alloc (.cells #[] 43) := ⟨_, rfl⟩
  have b0 : Below w.heap.size w W0 := by rw [hW0]; exact (Below.refl _ _).alloc (Nat.le_refl _) _
  have b1 : Below w.heap.size w W1 := by rw [hW1]; exact b0.alloc (by omega) _
  have R0 : Row W1 g 31 #[.slice a n c, .int .i64 nx] := by rw [hW1, hW0, eg]; exact (Row.new w 31 _).alloc _
  have HO := Lib.hid (show W1.ownsRow (g + 1) 43 1 (.slice (some ⟨g + 1, 0, none⟩) 0 0) ([] : List Rv).length (([] : List Rv).flatMap rvc) by rw [hW1, ← z0]; exact owns_lit W0 _ (Nat.le_refl _) 43 1)
  have HW0 := Lib.hid hW0
  have HW1 := Lib.hid hW1.symm
  have EG := Lib.hid eg
  have Z0 := Lib.hid z0
  have HB1 := Lib.hid b1
  have HR0 := Lib.hid R0
  have HN2 := Lib.hid hn2
  have HV := Lib.hid hV
  clear hW0 hW1 eg b0 b1 R0 hn2 hV hn
  go_enter Try.func19, Try.ntmps19
  go_upto_region 2 with (first | ((with_reducible show wpList _ _ _ (Oper.mk _ (Op.box _ _) _ _ _ _ :: _) _ _); (refine wpList_box_row rfl 31 (.tmp 0) rfl _ rfl g EG.out ?_; refine wpList_atE HW0.out ?_)))
  rw [HW1.out]
  clear z0
  go_wp2_with fail
  go_loopw [7, 8] (fun u iv wr => ∃ (k : Nat) (L : List Rv), k ≤ n2 ∧ k ≤ nn ∧ L.length ≤ k ∧ iv = .int .i64 k ∧ wr.ownsRow (g + 1) 43 1 u L.length (L.flatMap rvc) ∧ (∀ r ∈ L, Rok wr r) ∧ Row wr g 31 #[.slice a n c, .int .i64 nx] ∧ Below w.heap.size w wr) (fun _ iv _ => n2 - (intOf iv).toNat)
  case atStart => exact ⟨0, [], by omega, by omega, by simp, rfl, HO.out, by simp, HR0.out, HB1.out⟩
  case round =>
    obtain ⟨k, L, hk, hkm, hL, rfl, ho, hok, hr, hb⟩ := hrel
    obtain ⟨ul, uc, ev, hls⟩ := lt_of_own length_rvc ho rfl
    have HEND := Lib.hid (show RetRws nn (.returned u7) wr ∧ Below w.heap.size w wr from ⟨⟨ul, L, uc, by rw [ev], by omega, hls, hok⟩, hb⟩)
    clear ev hls
    by_cases hkk : k < n2 ∧ k < nn
    case neg =>
      have hw : (¬ (k : Int) < (n2 : Int)) ∨ ((k : Int) < (n2 : Int) ∧ ¬ (k : Int) < (nn : Int)) := by omega
      clear hkk hk hkm hL ho hok hr hb
      rcases hw with ki | ⟨ki, ki2⟩
      all_goals
        go_wp2_with fail
        first | go_ret | ((try simp only [Exit.inBlock, Exit.then]); go_ret)
        exact HEND.out
    obtain ⟨hk1, hk2⟩ := hkk
    have ki : (k : Int) < (n2 : Int) := by omega
    have ki2 : (k : Int) < (nn : Int) := by omega
    obtain ⟨gr, or, rfl, hgr, hc⟩ := HV.out.1.some (by rw [← HN2.out]; omega)
    obtain ⟨q, hq⟩ : ∃ f, V[k]? = some f := ⟨_, List.getElem?_eq_getElem (by rw [← HN2.out]; exact hk1)⟩
    have hqv := HV.out.2 q (List.mem_of_getElem? hq)
    have HKEEP := Lib.hid (fun X (h : Below (g + 1) wr X) => (⟨(hr.below h (Nat.lt_succ_self g)).cell 0, (hr.below h (Nat.lt_succ_self g)).cell 1, by have := range_below (hc k q hq) (hb.trans (h.mono (by have := EG.out; omega))) hgr 0 _ rfl; rw [Nat.add_zero, Nat.mul_one] at this; exact this⟩ :
      X.cell? ⟨g, 0, none⟩ = some (.slice a n c) ∧ X.cell? ⟨g, 1, none⟩ = some (.int .i64 nx) ∧ X.cell? ⟨gr, or + k, none⟩ = some (.slice q.a q.V.length q.c)))
    have HC := Lib.hid (fun X (h : Below wr.heap.size wr X) => row_any m _ q.a q.V q.V.length q.c X hm ((HS.out.bel hb).bel h) rfl hqv.2 ((hqv.1.bel hb).bel h))
    have HO := Lib.hid ho
    have HOK := Lib.hid hok
    have HRr := Lib.hid hr
    have HBr := Lib.hid hb
    have HGW := Lib.hid (show g + 1 ≤ wr.heap.size from hr.lt)
    have HKN := Lib.hid (And.intro hk1 hk2)
    have HLK := Lib.hid hL
    have hL2 : L.length ≤ 1000000 := by omega
    obtain ⟨x0, x1, x2⟩ := HKEEP.out wr (Below.refl _ _)
    clear hc hq hqv hk1 hk2 hk hkm hL ho hok hr hb hgr
    go_wp2_with fail
    go_region_held3 (fun X => X.cell? ⟨g, 0, none⟩ = some (.slice a n c) ∧ X.cell? ⟨g, 1, none⟩ = some (.int .i64 nx) ∧ X.cell? ⟨gr, or + k, none⟩ = some (.slice q.a q.V.length q.c)) (go_keep) (first | (refine step_pushK rfl (.tmp 21) (.tmp 28) 63 43 rfl _ 1 24 Try.underlying63 Try.info43 rfl (by decide) (by decide) (g + 1) u7 L.length (L.flatMap rvc) rfl w5 _ (rvc (Rv.mk ar cr R)) rfl (one_rvc _) rfl HO5.out HG5.out w5.heap.size rfl rfl hL2 (fun ge ce w2 hv' hg => ?_); have HV2 := Lib.hid hv'; have HG2 := Lib.hid hg; have hbb := Below.grown (B := g + 1) ((HX.out.mono HGW.out).alloc HG5.out (.cells (rvc (Rv.mk ar cr R)).toArray 43)) hg (by have := HG5.out; simp <;> omega) (fun b hb => (HO5.out.lt b hb).1); have HBB := Lib.hid hbb; have kk := HKEEP.out w2 hbb; clear hv' hg) | (go_simp; go_at_call 48; refine (HC.out _ (below_drewN (Below.refl _ _) 1)).mono ?_; rintro e w5 ⟨⟨v5, R, rfl, hRm, ar, cr, rfl, hlt⟩, b5⟩; have HX := Lib.hid ((below_drewN (Below.refl wr.heap.size wr) 1).trans b5); have kk := HKEEP.out w5 (HX.out.mono HGW.out); have HO5 := Lib.hid (owns_below HO.out HX.out (Nat.le_refl _)); have HLT := Lib.hid hlt; have HG5 := Lib.hid (Nat.le_trans HGW.out HX.out.size); clear b5 hlt))
    have b10 : Below w5.heap.size w5 (w5.alloc (.cells (rvc (Rv.mk ar cr R)).toArray 43)) := (Below.refl _ _).alloc (Nat.le_refl _) _
    have ho10 := owns_below HO5.out b10 (Nat.le_refl _)
    have hok2 : ∀ r ∈ L ++ [Rv.mk ar cr R], Rok w2 r := by
      intro r hr
      rcases List.mem_append.1 hr with h | h
      · exact (((HOK.out r h).bel HX.out).bel b10).grown ho10 (by decide) HG2.out
      · rw [List.mem_singleton.1 h]
        exact (Rok.bel (⟨HLT.out, show R.length ≤ 1000 by omega⟩ : Rok w5 (Rv.mk ar cr R)) b10).grown ho10 (by decide) HG2.out
    have HOK2 := Lib.hid hok2
    clear hok2 ho10 b10
    try clear hbb kk
    go_wp2_with fail
    go_roundw
    case rel => exact ⟨k + 1, L ++ [Rv.mk ar cr R], HKN.out.1, HKN.out.2, by have := HLK.out; simp; omega, by go_num, by rw [List.length_append, ← fl_snoc]; exact HV2.out, HOK2.out, HRr.out.below HBB.out (Nat.lt_succ_self g), HBr.out.trans (HBB.out.mono (by have := EG.out; omega))⟩
    case measure => have := HKN.out.1; simp [intOf] <;> omega
end Go.Proofs.Ytkonoojmhjinpaa
