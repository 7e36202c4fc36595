/- Openers of law 8's arguments. -/
import Derived.Test.YtnpkbjekodjcjaaDoorOp7
import Derived.Test.YtnpkbjekodjcjaaDoorS0
import Derived.Deep.Slices
import Derived.Deep.Matrix
set_option linter.all false
namespace Go.Proofs.YtnpkbjekodjcjaaDoor
open Go.ChangeShapes Go.WideShapes Go.ChangeAt Go.WideMaps Go.WideElems Go.RowKit Go.Fen Go.Deep
set_option linter.unusedVariables false
set_option maxRecDepth 100000

theorem Tryd.cells42 : Tryd.prog.cellsOf 42 = 2 := by kernel_rfl
theorem Tryd.cells38 : Tryd.prog.cellsOf 38 = 1 := by kernel_rfl
theorem Tryd.cells61 : Tryd.prog.cellsOf 61 = 1 := by kernel_rfl
section
variable {H : Type} {enc : TypeId × Value → H} {w : World} {base : Nat} {held : Bool}
theorem i8_cell {m : Nat} {v : Value} {x : Option (DataW H × List MemPlace)} (h : DataW.trod enc Tryd.prog w 0 (fun _ => true) held m 38 [v] = x) (hx : x.isSome = true) : ∃ n : Int, v = .int .i8 n ∧ -128 ≤ n ∧ n < 128 := by
  obtain ⟨y, rfl⟩ := Option.isSome_iff_exists.1 hx
  obtain ⟨n0, f0, _, w0⟩ := DataW.trod_int Tryd.underlying38 h
  simp at f0
  exact ⟨n0, f0, bounds_i8 w0⟩
theorem pairI8_arg {v : Value} {d : DataW H} {p : List MemPlace} (hv : Value.okWide Tryd.prog w .any base 42 v) (h : DataW.Trod enc Tryd.prog w 0 (fun _ => true) held 42 v d p) : ∃ x y : Int, v = .agg #[.int .i8 x, .int .i8 y] ∧ (-128 ≤ x ∧ x < 128) ∧ (-128 ≤ y ∧ y < 128) := by
  obtain ⟨cs, rfl, hsz⟩ := okWide_array Tryd.underlying42 hv
  obtain ⟨c0, c1, rfl⟩ := array2 (hsz.trans Tryd.cells42)
  obtain ⟨fuel, hf⟩ := h
  obtain ⟨xs, m1, _, _, hlen, hn, hel⟩ := DataW.trod_array Tryd.underlying42 (by simpa [Value.cells] using hf)
  rw [Tryd.cells38] at hel
  obtain ⟨a, rfl, ha⟩ := i8_cell (show DataW.trod enc Tryd.prog w 0 (fun _ => true) held m1 38 [c0] = xs[0]? from hel 0 (by omega)) (by simp [hn])
  obtain ⟨b, rfl, hb⟩ := i8_cell (show DataW.trod enc Tryd.prog w 0 (fun _ => true) held m1 38 [c1] = xs[1]? from hel 1 (by omega)) (by simp [hn])
  exact ⟨a, b, rfl, ha, hb⟩
theorem addr_add (b off i : Nat) : (⟨b, off, none⟩ : Addr).add i = ⟨b, off + i, none⟩ := by
  unfold Addr.add; split
  · subst_vars; rfl
  · rfl
theorem lt_of_cell {b o : Nat} {u : Value} (h : w.cell? ⟨b, o, none⟩ = some u) : b < w.heap.size := block_lt_of_cell (a := ⟨b, o, none⟩) h

theorem rows_arg {v : Value} {d : DataW H} {p : List MemPlace} (hv : Value.okWide Tryd.prog w .any base 41 v) (h : DataW.Trod enc Tryd.prog w 0 (fun _ => true) held 41 v d p) :
    ∃ (a : Option Addr) (R : List (List Int)) (c : Nat), v = .slice a R.length c ∧ RawM0 w a R ∧ ∀ l ∈ R, ∀ x ∈ l, -9223372036854775808 ≤ x ∧ x < 9223372036854775808 := by
  obtain ⟨a0, len0, cap0, rfl⟩ := okWide_slice Tryd.underlying41 hv
  obtain ⟨fuel, hf⟩ := h
  rcases open_int_rows Tryd.underlying41 Tryd.underlying61 Tryd.underlying2 Tryd.cells61 Tryd.cells2 (by simpa [Value.cells] using hf) with ⟨hcs, _⟩ | ⟨a, len, cap, A, L, C, Z, hcs, _, hl, hm, _, hx⟩
  · simp at hcs
    obtain ⟨rfl, rfl, rfl⟩ := hcs
    exact ⟨none, [], 0, rfl, .inl ⟨trivial, rfl⟩, fun l hl => by simp at hl⟩
  · simp at hcs
    obtain ⟨rfl, rfl, rfl⟩ := hcs
    have hg : ∀ i, i < len0 → ((List.range len0).map fun r => (Z r).take (L r)).getD i [] = (Z i).take (L i) := fun i hi => by simp [List.getD, hi]
    refine ⟨some a, (List.range len0).map fun r => (Z r).take (L r), cap0, by simp, ?_, ?_⟩
    · by_cases h0 : len0 = 0
      · exact .inl ⟨trivial, by simp [h0]⟩
      · obtain ⟨b, off, spot⟩ := a
        have hc0 := (hx 0 (by omega)).1
        have hspot : spot = none := by simpa [Addr.add] using World.cell?_spot hc0
        subst hspot
        rw [addr_add] at hc0
        refine .inr ⟨b, off, rfl, lt_of_cell hc0, fun i hi => ?_⟩
        have hi' : i < len0 := by simpa using hi
        rw [hg i hi']
        obtain ⟨x1, x2, _, x4, _, _, x7⟩ := hx i (by omega)
        rw [addr_add] at x1
        have hlen : ((Z i).take (L i)).length = L i := by simp; omega
        refine ⟨A i, C i, by rw [hlen]; exact x1, ?_⟩
        by_cases e0 : L i = 0
        · exact .inl ⟨trivial, by rw [hlen]; exact e0⟩
        · cases hA : A i with
          | none => have := (hx i (by omega)).2.2.2.2.2.1 hA; omega
          | some a' =>
            obtain ⟨_, hc⟩ := x7 a' hA
            obtain ⟨b', off', spot'⟩ := a'
            have hc1 := hc 0 (by omega)
            have hspot' : spot' = none := by simpa [Addr.add] using World.cell?_spot hc1
            subst hspot'
            rw [addr_add] at hc1
            refine .inr ⟨b', off', rfl, lt_of_cell hc1, fun j hj => ?_⟩
            rw [hlen] at hj
            have := hc j (by omega)
            rw [addr_add] at this
            rw [this]
            simp [List.getD, List.getElem?_take, hj]
    · intro l hl x hxl
      obtain ⟨r, hr, rfl⟩ := List.mem_map.1 hl
      have hr' : r < len0 := List.mem_range.1 hr
      obtain ⟨_, _, _, _, x5, _⟩ := hx r (by omega)
      exact bounds_i64 (x5 x (List.mem_of_mem_take hxl))
end
end Go.Proofs.YtnpkbjekodjcjaaDoor
