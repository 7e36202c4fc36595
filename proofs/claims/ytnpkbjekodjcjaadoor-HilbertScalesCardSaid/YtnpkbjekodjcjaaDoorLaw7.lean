/- Proved: Scale agrees with the reference, is monotonic, and maps the ends of the range to 0 and to the largest coordinate if the range has at least 2^order numbers; the table of functions is as the program lays it. -/
import Derived.Test.YtnpkbjekodjcjaaDoorRows
import Derived.Test.YtnpkbjekodjcjaaDoorCards
import Derived.Test.YtnpkbjekodjcjaaDoorTie
import Derived.Test.YtnpkbjekodjcjaaDoorWd
import Derived.Test.YtnpkbjekodjcjaaDoorOp7
import Derived.SevenTiedAt
set_option linter.all false
namespace Go.Proofs.YtnpkbjekodjcjaaDoor
open Go.ChangeShapes Go.WideShapes Go.ChangeAt Go.WideMaps Go.WideElems Go.RowKit Go.Fen
set_option linter.unusedVariables false

set_option maxRecDepth 100000 in
theorem hilbertScales_lifted (os : Os) (started : os.Started) (H : Type) (enc : TypeId × Value → H) :
    ReturnsInHanded {} Tryd.checked os 7 .any (fun w args => (Rows.hilbertScalesSpec.pre enc Tryd.prog Tryd.f7 [] false w args ∧ laidMetH Tryd.prog laidQ w) ∧ sizedMet enc Tryd.prog Tryd.f7 (OpenSpec.ofChange Rows.hilbertScalesSpec) false w args) (Rows.hilbertScalesSpec.post enc Tryd.prog Tryd.f7 false true false false) := by
  refine returnsInHanded_of_change_and (C := Tryd.checked) (X := fun w _ => laidMetH Tryd.prog laidQ w) (fun _ _ _ hh h => h.of_heap hh) own started (by kernel_rfl) Tryd.func7
    (ChangeSpec.witness_shaped (enc := enc) (C := Tryd.checked) (os := os) (X := fun w _ => laidMetH Tryd.prog laidQ w) false (World.doorLaid Tryd.prog 600 os) #[.agg #[.int .i64 0, .int .i64 0, .int .i64 0, .int .i64 0], .int .i8 0] 8 rfl (World.shaped_of_RefB (by kernel_rfl) (by kernel_rfl)) (by kernel_rfl) (by kernel_rfl) (by kernel_rfl) (door_met os _)) ?_
  intro W base args ds gs before hval0 hW _ _ hLaid _
  have hval : ∀ (j : Nat) t v, Tryd.f7.params[j]? = some t → args[j]? = some v → Value.okWide Tryd.prog W .any base t v := hval0
  have hW' := hW
  obtain ⟨p, q, hA0, hV, rfl, hfz, hnd⟩ := hW
  have hA : DataW.TrodAll enc Tryd.prog W 0 (fun _ => true) true Tryd.f7.params.toList args.toList ds p := hA0
  rw [Tryd.params7] at hA hval
  obtain ⟨v0, vs0, d0, ds0, p0, q0, hargs, rfl, rfl, k0, r0'⟩ := trodAll_cons hA
  obtain ⟨v1, vs1, d1, ds1, p1, q1, rfl, rfl, rfl, k1, r1'⟩ := trodAll_cons r0'
  obtain ⟨rfl, rfl, rfl⟩ := trodAll_nil r1'
  obtain rfl : args = #[v0, v1] := by cases args; simp_all
  obtain ⟨rfl, rfl⟩ := trodVars_none hV
  have lt0 : ∀ x ∈ p0, x.block < W.heap.size := by obtain ⟨m, hm⟩ := k0; exact DataW.trod_lt m _ _ _ hm
  have lt1 : ∀ x ∈ p1, x.block < W.heap.size := by obtain ⟨m, hm⟩ := k1; exact DataW.trod_lt m _ _ _ hm
  obtain ⟨x0, y0, z0, t0, rfl, h0⟩ := quadI_arg (hval 0 37 v0 rfl rfl) k0
  obtain ⟨x1, rfl, h1⟩ := i8_arg (hval 1 38 v1 rfl rfl) k1
  clear hA0 hval0
  refine (scales_walk x0 y0 z0 t0 x1 W (tab_of_laid hLaid) h0 h1).mono fun e W' ⟨he, bel⟩ => ?_
  subst he
  exact ⟨_, rfl, _, _, _, [], _, [], hW', trodAll_mk1 (shut_bool Tryd.underlying4 _), (trodAll_cons_mk (Below.trod laidOut (by kernel_rfl) (of_decide_eq_true (by kernel_rfl)) k0 bel lt0) (trodAll_cons_mk (Below.trod laidOut (by kernel_rfl) (of_decide_eq_true (by kernel_rfl)) k1 bel lt1) trodAll_mk0)), rfl, bel.frame _, fun h => by cases h⟩

theorem hilbertScales_holds : Rows.HilbertScalesSaid :=
  OpenClaim.holds_of_wide 7 Tryd.f7 rfl rfl rfl rfl rfl rfl rfl ⟨rfl, rfl, rfl, rfl, rfl⟩ rfl rfl rfl rfl rfl (by kernel_rfl) Tryd.func7 (by kernel_rfl)
    (of_decide_eq_true (by kernel_rfl)) (by unfold Func.isWrapper; first | (rw [if_pos (by decide +kernel)]; kernel_rfl) | (rw [if_neg (by decide +kernel)]; exact ⟨rfl, rfl⟩))
    (fun os started H enc _ => hilbertScales_lifted os started H enc)

/-- THE TIED CARD -/
theorem hilbertScales_card : Rows.HilbertScalesCardSaid :=
  Claim7.holds_tied_plain_at .later [] [.funcsDeep] true (true, "2e44d7ea2897f82dbc1cd4085afce5426b6413760111c03f061e029d24b37a34") false
    hilbertScales_holds (fun _ h => by cases h) (by kernel_rfl) (fun _ h => by cases h) hilbertScales_row_tie rfl ⟨rfl, rfl⟩ (by kernel_rfl) rfl
    (fun f fn hf hfn => by
      obtain rfl : f = 7 := Option.some.inj ((show Tryd.prog.funcNamed "fenland/fenlandlaw12.HilbertScales" = some 7 by kernel_rfl).symm.trans hf) |>.symm
      obtain rfl : fn = Tryd.f7 := (Option.some.inj (Tryd.func7.symm.trans hfn)).symm
      exact ⟨by kernel_rfl, fun j t ht => by
        rw [Tryd.params7] at ht
        match j, ht with
        | 0, ht => exact (Option.some.inj ht) ▸ (show Tryd.prog.wantsStandIn 37 = false by kernel_rfl)
        | 1, ht => exact (Option.some.inj ht) ▸ (show Tryd.prog.wantsStandIn 38 = false by kernel_rfl)
        | (j + 2), ht => simp at ht⟩)
    (by kernel_rfl)
#print axioms hilbertScales_card
end Go.Proofs.YtnpkbjekodjcjaaDoor
