/- The contract of number. -/
import Derived.Test.YtnpkbjekodjcjaaDoorJ
set_option linter.all false
namespace Go.Proofs.YtnpkbjekodjcjaaDoor
open Go.RowKit Go.Fen Hil
set_option linter.unusedVariables false
set_option maxHeartbeats 4000000

theorem number_any (a : Option Addr) (n c : Nat) (fs : List (Int × Int)) (id : Int) (w : World) (hR : RowM w (.slice a n c) fs) (en : n = fs.length) :
    Calls Tryd.prog 41 #[.agg #[.slice a n c], .int .i64 id] w fun e w' =>
      e = .returned (.tuple #[.int .i64 (numR fs id).1, .bool (numR fs id).2]) ∧ Below w.heap.size w w' := by
  obtain ⟨g, eg⟩ : ∃ g, g = w.heap.size := ⟨_, rfl⟩
  obtain ⟨W0, hW0⟩ : ∃ W, W = w.alloc (.cells #[.slice a n c] 76) := ⟨_, rfl⟩
  obtain ⟨W, hW⟩ : ∃ W, W = W0.alloc (.cells #[.int .i64 id] 3) := ⟨_, rfl⟩
  have hg1 : g + 1 = W0.heap.size := by rw [hW0, eg]; simp
  have hb : Below w.heap.size w W := by rw [hW, hW0]; exact ((Below.refl _ _).alloc (Nat.le_refl _) _).alloc (by simp) _
  have R0 : Row W g 76 #[.slice a n c] := by rw [hW, hW0, eg]; exact (Row.new w 76 _).alloc _
  have R1 : Row W (g + 1) 3 #[.int .i64 id] := by rw [hW]; exact Row.new' 3 _ hg1
  have call := indexc_any a n c fs id (g + 1) W (hR.below hb (Nat.le_refl _)) en (R1.cell 0)
  obtain ⟨p, hp⟩ : ∃ p, p = posR fs id := ⟨_, rfl⟩
  have hnum : numR fs id = if p < n then ((fs.getD p (0, 0)).2, true) else (0, false) := by rw [numR, ← hp, en]
  rw [hnum]
  rw [← hp] at call
  obtain ⟨a', c', e', hl, hM⟩ := hR
  injection e' with ea en' ec
  subst ea ec
  have hn : n ≤ 1000000 := by omega
  have R0' := Lib.hid R0
  have HW0 := Lib.hid hW0
  have HW := Lib.hid hW
  have EG := Lib.hid eg
  have HG1 := Lib.hid hg1
  have HB := Lib.hid hb
  have HM := Lib.hid hM
  have EN := Lib.hid en
  clear hnum hp R0 R1 hW0 hW eg hg1 hb hM en en' hl
  by_cases hpn : p < n
  · rw [if_pos hpn] at call ⊢
    have CALL := Lib.hid call
    obtain ⟨⟨x, y⟩, hxy⟩ : ∃ f, f = fs.getD p (0, 0) := ⟨_, rfl⟩
    rw [← hxy]
    obtain ⟨gc, o, ea, hgc, hc⟩ : ∃ gc o, a = some ⟨gc, o, none⟩ ∧ gc < w.heap.size ∧ ∀ i, i < fs.length → w.rangeAt gc (o + i * 4) (fcells (fs.getD i (0, 0))) := by
      rcases HM.out with ⟨_, h⟩ | h
      · have := EN.out; omega
      · exact h
    subst ea
    have hr := hc p (by rw [← EN.out]; exact hpn)
    rw [← hxy] at hr
    have HR := Lib.hid hr
    have HGC := Lib.hid hgc
    have pi : (p : Int) < (n : Int) := by omega
    have pn : ¬ (p : Int) < 0 := by omega
    clear call hr hc hgc hxy
    have hw0 : W0.heap.size = g + 1 := HG1.out.symm
    have k0 := R0'.out.cell 0
    simp only [List.getElem?_toArray, List.getElem?_cons_zero] at k0
    go_enter Tryd.func41, Tryd.ntmps41
    go_wp2_with (first | ((with_reducible show wpList _ _ _ (Oper.mk _ (Op.box _ _) _ _ _ _ :: _) _ _); (refine wpList_box_row rfl 76 (.tmp 0) rfl _ rfl g EG.out ?_; refine wpList_atE HW0.out ?_)) | ((with_reducible (refine wpList_atE HW.out ?_))))
    refine CALL.out.mono ?_
    rintro e w' ⟨rfl, hb'⟩
    have k1 := (hb'.cell (p := ⟨g, 0, none⟩) R0'.out.lt).trans k0
    have hr' := range_below (range_below HR.out HB.out HGC.out) hb' (Nat.lt_of_lt_of_le HGC.out HB.out.size)
    have c1 : w'.cell? ⟨gc, o + p * 4 + 1, none⟩ = some (.bool false) := hr' 1 _ rfl
    have c2 : w'.cell? ⟨gc, o + p * 4 + 2, none⟩ = some (.int .i64 y) := hr' 2 _ rfl
    have c2' : w'.cell? ⟨gc, o + p * 4 + 1 + 1, none⟩ = some (.int .i64 y) := hr' 2 _ rfl
    have HB' := Lib.hid hb'
    clear hb' hr' k0
    go_wp2_with fail
    go_ret2
    exact ⟨rfl, HB.out.trans (HB'.out.mono HB.out.size)⟩
  · rw [if_neg hpn] at call ⊢
    have CALL := Lib.hid call
    have hw0 : W0.heap.size = g + 1 := HG1.out.symm
    have k0 := R0'.out.cell 0
    simp only [List.getElem?_toArray, List.getElem?_cons_zero] at k0
    clear call
    go_enter Tryd.func41, Tryd.ntmps41
    go_wp2_with (first | ((with_reducible show wpList _ _ _ (Oper.mk _ (Op.box _ _) _ _ _ _ :: _) _ _); (refine wpList_box_row rfl 76 (.tmp 0) rfl _ rfl g EG.out ?_; refine wpList_atE HW0.out ?_)) | ((with_reducible (refine wpList_atE HW.out ?_))))
    refine CALL.out.mono ?_
    rintro e w' ⟨rfl, hb'⟩
    have HB' := Lib.hid hb'
    clear hb' k0
    go_wp2_with fail
    go_ret2
    exact ⟨rfl, HB.out.trans (HB'.out.mono HB.out.size)⟩
end Go.Proofs.YtnpkbjekodjcjaaDoor
