/- Contracts: Feed's closure. -/
import Derived.Test.YtkonoojmhjinpaaEv
set_option linter.all false
namespace Go.Proofs.Ytkonoojmhjinpaa
open Go.RowKit Go.Fen
set_option linter.unusedVariables false
set_option maxHeartbeats 4000000

theorem Try.info87 : (Try.prog.info? 87).map (fun i => (i.zero, i.size, i.bytes)) = some (some (.agg #[.int .i64 0, .pointer none, .pointer none]), 3, 24) := by kernel_rfl
/-- a line's pointer; its row's -/
def up : Option Addr → Option Addr
  | none => none
  | some a => some ⟨a.block, a.off + 1, none⟩
/-- a pointer to a variable's cell -/
def Fla (p : Option Addr) : Prop := p = none ∨ ∃ g o, p = some ⟨g, o, none⟩
theorem row_at (p : Option Addr) (hp : Fla p) (w : World) : Calls Try.prog 24 #[.pointer p] w fun e w' => e = .returned (.pointer (up p)) ∧ w' = w := by
  rcases hp with rfl | ⟨g, o, rfl⟩
  · exact row_nil w
  · exact row_some g o w
set_option maxRecDepth 20000 in
theorem feed1_any (V0 : World) (gv : Nat) (u : Value) (its : List It) (m : Int) (p q : Option Addr) (x y : Option Rv) (w : World) (hV : gv < V0.heap.size) (hA : AccG V0 gv 80 mkR 87 3 u its.length (its.flatMap itc) w) (hp : Fla p) (hq : Fla q) (hL : its.length ≤ 100000) :
    Calls Try.prog 23 #[.int .i64 m, .pointer p, .pointer q, .pointer (some ⟨gv, 0, none⟩)] w fun e w' => e = .returned (.tuple #[]) ∧ ∃ u', AccG V0 gv 80 mkR 87 3 u' (its ++ [(It.mk m (up p) (up q) x y)]).length ((its ++ [(It.mk m (up p) (up q) x y)]).flatMap itc) w' := by
  have HA := Lib.hid hA
  have k0 : w.cell? ⟨gv, 0, none⟩ = some u := hA.2.1.cell 0
  have k3 : ∀ (o : Obj), (w.alloc o).cell? ⟨gv, 0, none⟩ = some u := fun o => ((Below.refl w.heap.size w).alloc (Nat.le_refl _) o |>.cell (p := ⟨gv, 0, none⟩) hA.2.1.lt).trans k0
  have HL := Lib.hid hL
  have HP := Lib.hid hp
  have HQ := Lib.hid hq
  have HV := Lib.hid hV
  clear hA hL hp hq hV
  go_enter Try.func23, Try.ntmps23
  go_region_law (first | (refine step_pushK rfl (.tmp 7) (.tmp 14) 80 87 rfl _ 3 24 Try.underlying80 Try.info87 rfl (by decide) (by decide) V0.heap.size u its.length (its.flatMap itc) rfl w.drew _ (itc (It.mk m (up p) (up q) x y)) rfl (one_itc _) rfl (HA.out.drewN 1).1 (HA.out.drewN 1).2.2.size w.heap.size rfl rfl (by have := HL.out; omega) (fun ge ce w' hv' hg => ?_); obtain ⟨hrow, hAF⟩ := AccG.push (HA.out.drewN 1) HV.out ((Below.refl _ _).alloc (Nat.le_refl _) _) hv' hg 0 rfl; have z3 : w'.cell? ⟨gv, 0, none⟩ = some u := hrow.cell 0; have z4 := hrow.frozen 0; have HAF := Lib.hid hAF; clear hAF hrow hv' hg) | (go_simp; go_at_call 24; first | (refine (row_at p HP.out _).mono ?_; rintro e w2 ⟨rfl, rfl⟩) | (refine (row_at q HQ.out _).mono ?_; rintro e w2 ⟨rfl, rfl⟩)))
  all_goals
    go_wp2_with fail
    first | go_end0 | ((try simp only [Exit.inBlock, Exit.then]); refine bodyPost_ret (results_none rfl _ _ _) rfl ?_)
    exact ⟨rfl, _, by rw [List.length_append, ← fl_snoc]; exact HAF.out⟩
end Go.Proofs.Ytkonoojmhjinpaa
