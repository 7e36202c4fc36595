/- Proved: Order agrees with the reference, and its result is a permutation along which the indices do not decrease (at most 60 rows); the table of functions is as the program lays it. -/
import Derived.Test.YtnpkbjekodjcjaaDoorRows
import Derived.Test.YtnpkbjekodjcjaaDoorCards
import Derived.Test.YtnpkbjekodjcjaaDoorTie
import Derived.Test.YtnpkbjekodjcjaaDoorWo
import Derived.Test.YtnpkbjekodjcjaaDoorOp8
import Derived.SevenTiedAt
set_option linter.all false
namespace Go.Proofs.YtnpkbjekodjcjaaDoor
open Go.ChangeShapes Go.WideShapes Go.ChangeAt Go.WideMaps Go.WideElems Go.RowKit Go.Fen
set_option linter.unusedVariables false

set_option maxRecDepth 100000 in
theorem hilbertOrders_lifted (os : Os) (started : os.Started) (H : Type) (enc : TypeId × Value → H) :
    ReturnsInHanded {} Tryd.checked os 8 .any (fun w args => (Rows.hilbertOrdersSpec.pre enc Tryd.prog Tryd.f8 [] false w args ∧ laidMetH Tryd.prog laidQ w) ∧ sizedMet enc Tryd.prog Tryd.f8 (OpenSpec.ofChange Rows.hilbertOrdersSpec) false w args) (Rows.hilbertOrdersSpec.post enc Tryd.prog Tryd.f8 false true false false) := by
  refine returnsInHanded_of_change_and (C := Tryd.checked) (X := fun w _ => laidMetH Tryd.prog laidQ w) (fun _ _ _ hh h => h.of_heap hh) own started (by kernel_rfl) Tryd.func8
    (ChangeSpec.witness_shaped (enc := enc) (C := Tryd.checked) (os := os) (X := fun w _ => laidMetH Tryd.prog laidQ w) false (World.doorLaid Tryd.prog 600 os) #[.slice none 0 0, .int .i8 0, .agg #[.int .i8 0, .int .i8 0]] 8 rfl (World.shaped_of_RefB (by kernel_rfl) (by kernel_rfl)) (by kernel_rfl) (by kernel_rfl) (by kernel_rfl) (door_met os _)) ?_
  intro W base args ds gs before hval0 hW _ _ hLaid _
  have hval : ∀ (j : Nat) t v, Tryd.f8.params[j]? = some t → args[j]? = some v → Value.okWide Tryd.prog W .any base t v := hval0
  have hW' := hW
  obtain ⟨p, q, hA0, hV, rfl, hfz, hnd⟩ := hW
  have hA : DataW.TrodAll enc Tryd.prog W 0 (fun _ => true) true Tryd.f8.params.toList args.toList ds p := hA0
  rw [Tryd.params8] at hA hval
  obtain ⟨v0, vs0, d0, ds0, p0, q0, hargs, rfl, rfl, k0, r0'⟩ := trodAll_cons hA
  obtain ⟨v1, vs1, d1, ds1, p1, q1, rfl, rfl, rfl, k1, r1'⟩ := trodAll_cons r0'
  obtain ⟨v2, vs2, d2, ds2, p2, q2, rfl, rfl, rfl, k2, r2'⟩ := trodAll_cons r1'
  obtain ⟨rfl, rfl, rfl⟩ := trodAll_nil r2'
  obtain rfl : args = #[v0, v1, v2] := by cases args; simp_all
  obtain ⟨rfl, rfl⟩ := trodVars_none hV
  have lt0 : ∀ x ∈ p0, x.block < W.heap.size := by obtain ⟨m, hm⟩ := k0; exact DataW.trod_lt m _ _ _ hm
  have lt1 : ∀ x ∈ p1, x.block < W.heap.size := by obtain ⟨m, hm⟩ := k1; exact DataW.trod_lt m _ _ _ hm
  have lt2 : ∀ x ∈ p2, x.block < W.heap.size := by obtain ⟨m, hm⟩ := k2; exact DataW.trod_lt m _ _ _ hm
  obtain ⟨x0, R0, c0, rfl, hM0, hR0⟩ := rows_arg (hval 0 41 v0 rfl rfl) k0
  obtain ⟨x1, rfl, h1⟩ := i8_arg (hval 1 38 v1 rfl rfl) k1
  obtain ⟨x2, y2, rfl, h2⟩ := pairI8_arg (hval 2 42 v2 rfl rfl) k2
  clear hA0 hval0
  refine (orders_walk x0 R0 _ c0 x1 x2 y2 W (tab_of_laid hLaid) rfl hM0 hR0 h1 h2.1 h2.2).mono fun e W' ⟨he, bel⟩ => ?_
  subst he
  exact ⟨_, rfl, _, _, _, [], _, [], hW', trodAll_mk1 (shut_bool Tryd.underlying4 _), (trodAll_cons_mk (Below.trod laidOut (by kernel_rfl) (of_decide_eq_true (by kernel_rfl)) k0 bel lt0) (trodAll_cons_mk (Below.trod laidOut (by kernel_rfl) (of_decide_eq_true (by kernel_rfl)) k1 bel lt1) (trodAll_cons_mk (Below.trod laidOut (by kernel_rfl) (of_decide_eq_true (by kernel_rfl)) k2 bel lt2) trodAll_mk0))), rfl, bel.frame _, fun h => by cases h⟩

theorem hilbertOrders_holds : Rows.HilbertOrdersSaid :=
  OpenClaim.holds_of_wide 8 Tryd.f8 rfl rfl rfl rfl rfl rfl rfl ⟨rfl, rfl, rfl, rfl, rfl⟩ rfl rfl rfl rfl rfl (by kernel_rfl) Tryd.func8 (by kernel_rfl)
    (of_decide_eq_true (by kernel_rfl)) (by unfold Func.isWrapper; first | (rw [if_pos (by decide +kernel)]; kernel_rfl) | (rw [if_neg (by decide +kernel)]; exact ⟨rfl, rfl⟩))
    (fun os started H enc _ => hilbertOrders_lifted os started H enc)

/-- THE TIED CARD -/
theorem hilbertOrders_card : Rows.HilbertOrdersCardSaid :=
  Claim7.holds_tied_plain_at .later [] [.funcsDeep] true (true, "2e44d7ea2897f82dbc1cd4085afce5426b6413760111c03f061e029d24b37a34") false
    hilbertOrders_holds (fun _ h => by cases h) (by kernel_rfl) (fun _ h => by cases h) hilbertOrders_row_tie rfl ⟨rfl, rfl⟩ (by kernel_rfl) rfl
    (fun f fn hf hfn => by
      obtain rfl : f = 8 := Option.some.inj ((show Tryd.prog.funcNamed "fenland/fenlandlaw12.HilbertOrders" = some 8 by kernel_rfl).symm.trans hf) |>.symm
      obtain rfl : fn = Tryd.f8 := (Option.some.inj (Tryd.func8.symm.trans hfn)).symm
      exact ⟨by kernel_rfl, fun j t ht => by
        rw [Tryd.params8] at ht
        match j, ht with
        | 0, ht => exact (Option.some.inj ht) ▸ (show Tryd.prog.wantsStandIn 41 = false by kernel_rfl)
        | 1, ht => exact (Option.some.inj ht) ▸ (show Tryd.prog.wantsStandIn 38 = false by kernel_rfl)
        | 2, ht => exact (Option.some.inj ht) ▸ (show Tryd.prog.wantsStandIn 42 = false by kernel_rfl)
        | (j + 3), ht => simp at ht⟩)
    (by kernel_rfl)
#print axioms hilbertOrders_card
end Go.Proofs.YtnpkbjekodjcjaaDoor
