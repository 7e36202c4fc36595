/- The contract of at. -/
import Derived.Test.YtnpkbjekodjcjaaDoorB
set_option linter.all false
namespace Go.Proofs.YtnpkbjekodjcjaaDoor
open Go.RowKit Go.Fen Hil
set_option linter.unusedVariables false
set_option maxHeartbeats 400000

theorem at_any (s x y : Nat) (w : World) (hT : Tab w) (hs : 0 < s) (h32 : s ≤ 65536) (hx : x < 2 * s) (hy : y < 2 * s) :
    Calls Tryd.prog 27 #[.int .u32 s, .int .u32 x, .int .u32 y] w fun e w' => e = .returned (.int .i64 (qn (x / s) (y / s))) ∧ Below w.heap.size w w' := by
  obtain ⟨W, hW⟩ : ∃ W, W = ((w.alloc (.cells #[.int .u32 s] 22)).alloc (.cells #[.int .u32 x] 22)).alloc (.cells #[.int .u32 y] 22) := ⟨_, rfl⟩
  have hb : Below w.heap.size w W := by rw [hW]; exact (((Below.refl _ _).alloc (Nat.le_refl _) _).alloc (by simp) _).alloc (by simp <;> omega) _
  have R0 : Row W w.heap.size 22 #[.int .u32 s] := by rw [hW]; exact ((Row.new w 22 _).alloc _).alloc _
  have R1 : Row W (w.heap.size + 1) 22 #[.int .u32 x] := by rw [hW]; exact (Row.new' 22 _ (by simp)).alloc _
  have R2 : Row W (w.heap.size + 1 + 1) 22 #[.int .u32 y] := by rw [hW]; exact Row.new' 22 _ (by simp)
  have call := indexq_any (w.heap.size + 1) w.heap.size (w.heap.size + 1 + 1) x s y _ _ W (hT.below hb (Nat.le_refl _)) hs h32 hx hy rfl rfl (R1.cell 0) (R0.cell 0) (R2.cell 0)
  clear R0 R1 R2
  have HB := Lib.hid hb
  have CALL := Lib.hid call
  have HW := Lib.hid hW
  clear hb call hW hT
  generalize qn (x / s) (y / s) = q at *
  go_enter Tryd.func27, Tryd.ntmps27
  go_wp2_with fail
  rw [← HW.out]
  refine CALL.out.mono ?_
  rintro e w' ⟨rfl, b⟩
  go_wp2_with fail
  go_ret
  exact ⟨rfl, HB.out.trans (b.mono HB.out.size)⟩
end Go.Proofs.YtnpkbjekodjcjaaDoor
