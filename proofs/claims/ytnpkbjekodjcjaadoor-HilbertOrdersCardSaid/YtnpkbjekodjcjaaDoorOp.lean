/- Openers of the rows' arguments. -/
import Derived.Test.YtnpkbjekodjcjaaDoorPh
set_option linter.all false
namespace Go.Proofs.YtnpkbjekodjcjaaDoor
open Go.ChangeShapes Go.WideShapes Go.ChangeAt Go.WideMaps Go.WideElems Go.RowKit Go.Fen
set_option linter.unusedVariables false
set_option maxRecDepth 100000

theorem bounds_u32 {n : Int} (h : (Lit.int .u32 n).wf = true) : 0 ≤ n ∧ n < 4294967296 := by
  simp [Lit.wf, IntKind.min, IntKind.max, IntKind.signed, IntKind.bits] at h
  omega
theorem bounds_u64 {n : Int} (h : (Lit.int .u64 n).wf = true) : 0 ≤ n ∧ n < 18446744073709551616 := by
  simp [Lit.wf, IntKind.min, IntKind.max, IntKind.signed, IntKind.bits] at h
  omega
theorem bounds_i64 {n : Int} (h : (Lit.int .i64 n).wf = true) : -9223372036854775808 ≤ n ∧ n < 9223372036854775808 := by
  simp [Lit.wf, IntKind.min, IntKind.max, IntKind.signed, IntKind.bits] at h
  omega
theorem bounds_i8 {n : Int} (h : (Lit.int .i8 n).wf = true) : -128 ≤ n ∧ n < 128 := by
  simp [Lit.wf, IntKind.min, IntKind.max, IntKind.signed, IntKind.bits] at h
  omega
theorem array2 {cs : Array Value} (h : cs.size = 2) : ∃ a b, cs = #[a, b] := by
  obtain ⟨l⟩ := cs
  match l, h with
  | [a, b], _ => exact ⟨a, b, rfl⟩
theorem array4 {cs : Array Value} (h : cs.size = 4) : ∃ a b c d, cs = #[a, b, c, d] := by
  obtain ⟨l⟩ := cs
  match l, h with
  | [a, b, c, d], _ => exact ⟨a, b, c, d, rfl⟩
theorem Tryd.cells23 : Tryd.prog.cellsOf 23 = 2 := by kernel_rfl
theorem Tryd.cells34 : Tryd.prog.cellsOf 34 = 4 := by kernel_rfl
section
variable {H : Type} {enc : TypeId × Value → H} {w : World} {base : Nat} {held : Bool}
theorem u8_arg {v : Value} {d : DataW H} {p : List MemPlace} (hv : Value.okWide Tryd.prog w .any base 5 v) (h : DataW.Trod enc Tryd.prog w 0 (fun _ => true) held 5 v d p) : ∃ x : Nat, v = .int .u8 x ∧ x < 256 := by
  obtain ⟨a, rfl, _, _, wa⟩ := open_int Tryd.underlying5 hv h
  have := bounds_u8 wa
  exact ⟨a.toNat, by rw [Int.toNat_of_nonneg this.1], by omega⟩
theorem u64_arg {v : Value} {d : DataW H} {p : List MemPlace} (hv : Value.okWide Tryd.prog w .any base 24 v) (h : DataW.Trod enc Tryd.prog w 0 (fun _ => true) held 24 v d p) : ∃ x : Nat, v = .int .u64 x ∧ x < 18446744073709551616 := by
  obtain ⟨a, rfl, _, _, wa⟩ := open_int Tryd.underlying24 hv h
  have := bounds_u64 wa
  exact ⟨a.toNat, by rw [Int.toNat_of_nonneg this.1], by omega⟩
theorem int_arg {v : Value} {d : DataW H} {p : List MemPlace} (hv : Value.okWide Tryd.prog w .any base 3 v) (h : DataW.Trod enc Tryd.prog w 0 (fun _ => true) held 3 v d p) : ∃ x : Int, v = .int .i64 x ∧ -9223372036854775808 ≤ x ∧ x < 9223372036854775808 := by
  obtain ⟨a, rfl, _, _, wa⟩ := open_int Tryd.underlying3 hv h
  exact ⟨a, rfl, bounds_i64 wa⟩
theorem okWide_array {t e : TypeId} {n : Nat} {r : Reach} {v : Value} (ht : Tryd.prog.underlying t = some (.array n e)) (h : Value.okWide Tryd.prog w r base t v) : ∃ cs, v = .agg cs ∧ cs.size = Tryd.prog.cellsOf t := by
  simp only [Value.okWide, ht] at h
  obtain ⟨cs, h1, h2, _⟩ := h
  exact ⟨cs, h1, h2⟩
theorem u32_cell {m : Nat} {v : Value} {x : Option (DataW H × List MemPlace)} (h : DataW.trod enc Tryd.prog w 0 (fun _ => true) held m 22 [v] = x) (hx : x.isSome = true) : ∃ n : Nat, v = .int .u32 n ∧ n < 4294967296 := by
  obtain ⟨y, rfl⟩ := Option.isSome_iff_exists.1 hx
  obtain ⟨n0, f0, _, w0⟩ := DataW.trod_int Tryd.underlying22 h
  have := bounds_u32 w0
  simp at f0
  exact ⟨n0.toNat, by rw [f0, Int.toNat_of_nonneg this.1], by omega⟩
theorem pair_arg {v : Value} {d : DataW H} {p : List MemPlace} (hv : Value.okWide Tryd.prog w .any base 23 v) (h : DataW.Trod enc Tryd.prog w 0 (fun _ => true) held 23 v d p) : ∃ x y : Nat, v = .agg #[.int .u32 x, .int .u32 y] ∧ x < 4294967296 ∧ y < 4294967296 := by
  obtain ⟨cs, rfl, hsz⟩ := okWide_array Tryd.underlying23 hv
  obtain ⟨c0, c1, rfl⟩ := array2 (hsz.trans Tryd.cells23)
  obtain ⟨fuel, hf⟩ := h
  obtain ⟨xs, m1, _, _, hlen, hn, hel⟩ := DataW.trod_array Tryd.underlying23 (by simpa [Value.cells] using hf)
  rw [Tryd.cells22] at hel
  obtain ⟨a, rfl, ha⟩ := u32_cell (show DataW.trod enc Tryd.prog w 0 (fun _ => true) held m1 22 [c0] = xs[0]? from hel 0 (by omega)) (by simp [hn])
  obtain ⟨b, rfl, hb⟩ := u32_cell (show DataW.trod enc Tryd.prog w 0 (fun _ => true) held m1 22 [c1] = xs[1]? from hel 1 (by omega)) (by simp [hn])
  exact ⟨a, b, rfl, ha, hb⟩
theorem quad_arg {v : Value} {d : DataW H} {p : List MemPlace} (hv : Value.okWide Tryd.prog w .any base 34 v) (h : DataW.Trod enc Tryd.prog w 0 (fun _ => true) held 34 v d p) : ∃ x y z t : Nat, v = .agg #[.int .u32 x, .int .u32 y, .int .u32 z, .int .u32 t] ∧ x < 4294967296 ∧ y < 4294967296 ∧ z < 4294967296 ∧ t < 4294967296 := by
  obtain ⟨cs, rfl, hsz⟩ := okWide_array Tryd.underlying34 hv
  obtain ⟨c0, c1, c2, c3, rfl⟩ := array4 (hsz.trans Tryd.cells34)
  obtain ⟨fuel, hf⟩ := h
  obtain ⟨xs, m1, _, _, hlen, hn, hel⟩ := DataW.trod_array Tryd.underlying34 (by simpa [Value.cells] using hf)
  rw [Tryd.cells22] at hel
  obtain ⟨a, rfl, ha⟩ := u32_cell (show DataW.trod enc Tryd.prog w 0 (fun _ => true) held m1 22 [c0] = xs[0]? from hel 0 (by omega)) (by simp [hn])
  obtain ⟨b, rfl, hb⟩ := u32_cell (show DataW.trod enc Tryd.prog w 0 (fun _ => true) held m1 22 [c1] = xs[1]? from hel 1 (by omega)) (by simp [hn])
  obtain ⟨c, rfl, hc⟩ := u32_cell (show DataW.trod enc Tryd.prog w 0 (fun _ => true) held m1 22 [c2] = xs[2]? from hel 2 (by omega)) (by simp [hn])
  obtain ⟨e, rfl, he⟩ := u32_cell (show DataW.trod enc Tryd.prog w 0 (fun _ => true) held m1 22 [c3] = xs[3]? from hel 3 (by omega)) (by simp [hn])
  exact ⟨a, b, c, e, rfl, ha, hb, hc, he⟩
end
end Go.Proofs.YtnpkbjekodjcjaaDoor
