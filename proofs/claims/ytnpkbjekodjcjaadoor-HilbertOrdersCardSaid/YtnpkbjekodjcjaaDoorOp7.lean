/- Openers of law 7's arguments. -/
import Derived.Test.YtnpkbjekodjcjaaDoorOp
set_option linter.all false
namespace Go.Proofs.YtnpkbjekodjcjaaDoor
open Go.ChangeShapes Go.WideShapes Go.ChangeAt Go.WideMaps Go.WideElems Go.RowKit Go.Fen
set_option linter.unusedVariables false
set_option maxRecDepth 100000

theorem Tryd.cells37 : Tryd.prog.cellsOf 37 = 4 := by kernel_rfl
theorem Tryd.cells2 : Tryd.prog.cellsOf 2 = 1 := by kernel_rfl
section
variable {H : Type} {enc : TypeId × Value → H} {w : World} {base : Nat} {held : Bool}
theorem i8_arg {v : Value} {d : DataW H} {p : List MemPlace} (hv : Value.okWide Tryd.prog w .any base 38 v) (h : DataW.Trod enc Tryd.prog w 0 (fun _ => true) held 38 v d p) : ∃ x : Int, v = .int .i8 x ∧ -128 ≤ x ∧ x < 128 := by
  obtain ⟨a, rfl, _, _, wa⟩ := open_int Tryd.underlying38 hv h
  exact ⟨a, rfl, bounds_i8 wa⟩
theorem i64_cell {m : Nat} {v : Value} {x : Option (DataW H × List MemPlace)} (h : DataW.trod enc Tryd.prog w 0 (fun _ => true) held m 2 [v] = x) (hx : x.isSome = true) : ∃ n : Int, v = .int .i64 n ∧ -9223372036854775808 ≤ n ∧ n < 9223372036854775808 := by
  obtain ⟨y, rfl⟩ := Option.isSome_iff_exists.1 hx
  obtain ⟨n0, f0, _, w0⟩ := DataW.trod_int Tryd.underlying2 h
  simp at f0
  exact ⟨n0, f0, bounds_i64 w0⟩
theorem quadI_arg {v : Value} {d : DataW H} {p : List MemPlace} (hv : Value.okWide Tryd.prog w .any base 37 v) (h : DataW.Trod enc Tryd.prog w 0 (fun _ => true) held 37 v d p) : ∃ x y z t : Int, v = .agg #[.int .i64 x, .int .i64 y, .int .i64 z, .int .i64 t] ∧ (-9223372036854775808 ≤ x ∧ x < 9223372036854775808) ∧ (-9223372036854775808 ≤ y ∧ y < 9223372036854775808) ∧ (-9223372036854775808 ≤ z ∧ z < 9223372036854775808) ∧ (-9223372036854775808 ≤ t ∧ t < 9223372036854775808) := by
  obtain ⟨cs, rfl, hsz⟩ := okWide_array Tryd.underlying37 hv
  obtain ⟨c0, c1, c2, c3, rfl⟩ := array4 (hsz.trans Tryd.cells37)
  obtain ⟨fuel, hf⟩ := h
  obtain ⟨xs, m1, _, _, hlen, hn, hel⟩ := DataW.trod_array Tryd.underlying37 (by simpa [Value.cells] using hf)
  rw [Tryd.cells2] at hel
  obtain ⟨a, rfl, ha⟩ := i64_cell (show DataW.trod enc Tryd.prog w 0 (fun _ => true) held m1 2 [c0] = xs[0]? from hel 0 (by omega)) (by simp [hn])
  obtain ⟨b, rfl, hb⟩ := i64_cell (show DataW.trod enc Tryd.prog w 0 (fun _ => true) held m1 2 [c1] = xs[1]? from hel 1 (by omega)) (by simp [hn])
  obtain ⟨c, rfl, hc⟩ := i64_cell (show DataW.trod enc Tryd.prog w 0 (fun _ => true) held m1 2 [c2] = xs[2]? from hel 2 (by omega)) (by simp [hn])
  obtain ⟨e, rfl, he⟩ := i64_cell (show DataW.trod enc Tryd.prog w 0 (fun _ => true) held m1 2 [c3] = xs[3]? from hel 3 (by omega)) (by simp [hn])
  exact ⟨a, b, c, e, rfl, ha, hb, hc, he⟩
end
end Go.Proofs.YtnpkbjekodjcjaaDoor
