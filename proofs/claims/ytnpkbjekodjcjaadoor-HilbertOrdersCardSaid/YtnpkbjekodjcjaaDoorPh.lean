/- From the rows' premises to what the walks ask: the table of functions. -/
import Derived.Test.YtnpkbjekodjcjaaDoorY
import Derived.Test.YtnpkbjekodjcjaaDoorRows
import Derived.OpenShut
import Derived.ShutString
import Derived.ChangeOld
import Derived.LaidMore
import Derived.Stop.Joined
set_option linter.all false
namespace Go.Proofs.YtnpkbjekodjcjaaDoor
open Go.ChangeShapes Go.WideShapes Go.ChangeAt Go.WideMaps Go.WideElems Go.RowKit Go.Fen
set_option linter.unusedVariables false

def laidQ : List (String × DataW Unit) := [("fenland/hilbert.quadrants", Rows.laid_fenland_hilbert_quadrants)]
theorem own : ownKnob Tryd.prog.godebug = none := by kernel_rfl
theorem laidOut : laidOutB Tryd.prog = true := by kernel_rfl
theorem gQuad : Tryd.prog.globalNamed "fenland/hilbert.quadrants" = some 0 := by kernel_rfl
theorem tQuad : (Tryd.prog.globals[0]?).map (·.type) = some 68 := by kernel_rfl
theorem Tryd.cells68 : Tryd.prog.cellsOf 68 = 16 := by kernel_rfl
theorem Tryd.cells67 : Tryd.prog.cellsOf 67 = 4 := by kernel_rfl
theorem Tryd.cells22 : Tryd.prog.cellsOf 22 = 1 := by kernel_rfl
theorem Tryd.cells65 : Tryd.prog.cellsOf 65 = 1 := by kernel_rfl

theorem door_met (os : Os) (args : Array Value) : laidMetH Tryd.prog laidQ ((World.doorLaid Tryd.prog 600 os).forCall (fun _ _ => 0) ⟨#[], args, []⟩).memory :=
  laidMetH_of_parts3 (fuel := 8) (laidMet_of_run' 8 (by kernel_rfl) (by kernel_rfl)) (by kernel_rfl) (by kernel_rfl)

set_option maxRecDepth 100000 in
theorem row4 {w : World} {base : Nat} {sp : Nat → Bool} {m : Nat} {l : List Value} {x : DataW (List UInt8) × List MemPlace} {a b : Int} {c : UInt8} {r : List UInt8} {f0 : FuncId}
    (hone : ((List.range Tryd.prog.funcs.size).filter fun f => (Tryd.prog.funcs[f]?).any (·.name.toUTF8.data.toList == c :: r)) = [f0])
    (h : DataW.trod (funcToken Tryd.prog) Tryd.prog w base sp true m 67 l = some x)
    (hx : x.1 = .agg [.lit (.int .u32 a), .lit (.int .u32 b), .held (c :: r), .held (c :: r)]) : l = [.int .u32 a, .int .u32 b, .func (.func f0) #[] #[], .func (.func f0) #[] #[]] := by
  obtain ⟨xs, m1, rfl, rfl, hlen, hn, hel⟩ := DataW.trod_struct Tryd.underlying67 h
  rw [Tryd.cells67] at hlen
  match l, hlen, xs, hn with
  | [v0, v1, v2, v3], _, [x0, x1, x2, x3], _ =>
    simp only [List.map_cons, List.map_nil, DataW.agg.injEq, List.cons.injEq, and_true] at hx
    obtain ⟨e0, e1, e2, e3⟩ := hx
    have t0 : DataW.trod (funcToken Tryd.prog) Tryd.prog w base sp true m1 22 (([v0, v1, v2, v3].drop 0).take (Tryd.prog.cellsOf 22)) = some x0 := hel 0 _ rfl
    rw [Tryd.cells22] at t0
    have t1 : DataW.trod (funcToken Tryd.prog) Tryd.prog w base sp true m1 22 (([v0, v1, v2, v3].drop 1).take (Tryd.prog.cellsOf 22)) = some x1 := hel 1 _ rfl
    rw [Tryd.cells22] at t1
    have t2 : DataW.trod (funcToken Tryd.prog) Tryd.prog w base sp true m1 65 (([v0, v1, v2, v3].drop 2).take (Tryd.prog.cellsOf 65)) = some x2 := hel 2 _ rfl
    rw [Tryd.cells65] at t2
    have t3 : DataW.trod (funcToken Tryd.prog) Tryd.prog w base sp true m1 65 (([v0, v1, v2, v3].drop 3).take (Tryd.prog.cellsOf 65)) = some x3 := hel 3 _ rfl
    rw [Tryd.cells65] at t3
    obtain ⟨n0, f0, g0, _⟩ := DataW.trod_int Tryd.underlying22 (show DataW.trod (funcToken Tryd.prog) Tryd.prog w base sp true m1 22 [v0] = some x0 from t0)
    obtain ⟨n1, f1, g1, _⟩ := DataW.trod_int Tryd.underlying22 (show DataW.trod (funcToken Tryd.prog) Tryd.prog w base sp true m1 22 [v1] = some x1 from t1)
    rw [g0] at e0; rw [g1] at e1
    simp only [DataW.lit.injEq, Lit.int.injEq, true_and] at e0 e1
    simp only [List.cons.injEq, and_true] at f0 f1
    obtain ⟨y2, z2⟩ := x2
    obtain ⟨y3, z3⟩ := x3
    simp only at e2 e3
    subst e2 e3
    have f2 := func_of_trod Tryd.underlying65 hone (show DataW.trod (funcToken Tryd.prog) Tryd.prog w base sp true m1 65 [v2] = some (.held (c :: r), z2) from t2)
    have f3 := func_of_trod Tryd.underlying65 hone (show DataW.trod (funcToken Tryd.prog) Tryd.prog w base sp true m1 65 [v3] = some (.held (c :: r), z3) from t3)
    rw [f0, f1, f2, f3, e0, e1]

set_option maxRecDepth 100000 in
theorem tab_of_laid {W : World} (h : laidMetH Tryd.prog laidQ W) : Tab W := by
  obtain ⟨g, t, cs, fuel, p, hg, ht, hv, hd⟩ := h.funcs (List.mem_singleton.2 rfl)
  obtain rfl := Option.some.inj (gQuad.symm.trans hg)
  obtain rfl := Option.some.inj (tQuad.symm.trans ht)
  obtain ⟨xs, m1, rfl, hx, hlen, hn, hel⟩ := DataW.trod_array Tryd.underlying68 hd
  rw [Tryd.cells68] at hlen
  rw [Tryd.cells67] at hel
  obtain ⟨l⟩ := cs
  have hx1 := (Prod.mk.inj hx).1
  match xs, hn with
  | [x0, x1, x2, x3], _ =>
    simp only [List.map_cons, List.map_nil, DataW.funcsOut, DataW.funcsOutAll, DataW.agg.injEq, List.cons.injEq, and_true] at hx1
    obtain ⟨e0, e1, e2, e3⟩ := hx1
    have h0 := row4 (f0 := 74) (by kernel_rfl) (hel 0 (by decide)) e0.symm
    have h1 := row4 (f0 := 75) (by kernel_rfl) (hel 1 (by decide)) e1.symm
    have h2 := row4 (f0 := 75) (by kernel_rfl) (hel 2 (by decide)) e2.symm
    have h3 := row4 (f0 := 76) (by kernel_rfl) (hel 3 (by decide)) e3.symm
    have hl : l.length = 16 := hlen
    have hsplit : ∀ i, i < 16 → l[i]? = ((l.drop ((i / 4) * 4)).take 4)[i % 4]? := by
      intro i hi
      rw [List.getElem?_take, if_pos (Nat.mod_lt _ (by decide)), List.getElem?_drop]
      congr 1
      omega
    have hc : ∀ i, W.cell? ⟨0, i, none⟩ = l[i]? := fun i => by
      have := World.var?_cell hg hv i
      rw [this]
      exact List.getElem?_toArray ..
    have hz : 0 < W.heap.size := by
      have := hc 0
      rw [hsplit 0 (by decide), show 0 / 4 * 4 = 0 * 4 from rfl, h0] at this
      exact block_lt_of_cell (a := ⟨0, 0, none⟩) this
    refine ⟨hz, fun q hq => ?_⟩
    have hq4 : q = 0 ∨ q = 1 ∨ q = 2 ∨ q = 3 := by omega
    rcases hq4 with rfl | rfl | rfl | rfl
    · refine ⟨?_, ?_, ?_, ?_⟩ <;> rw [hc, hsplit _ (by decide)] <;> first | exact congrArg (·[0]?) h0 | exact congrArg (·[1]?) h0 | exact congrArg (·[2]?) h0 | exact congrArg (·[3]?) h0
    · refine ⟨?_, ?_, ?_, ?_⟩ <;> rw [hc, hsplit _ (by decide)] <;> first | exact congrArg (·[0]?) h1 | exact congrArg (·[1]?) h1 | exact congrArg (·[2]?) h1 | exact congrArg (·[3]?) h1
    · refine ⟨?_, ?_, ?_, ?_⟩ <;> rw [hc, hsplit _ (by decide)] <;> first | exact congrArg (·[0]?) h2 | exact congrArg (·[1]?) h2 | exact congrArg (·[2]?) h2 | exact congrArg (·[3]?) h2
    · refine ⟨?_, ?_, ?_, ?_⟩ <;> rw [hc, hsplit _ (by decide)] <;> first | exact congrArg (·[0]?) h3 | exact congrArg (·[1]?) h3 | exact congrArg (·[2]?) h3 | exact congrArg (·[3]?) h3
end Go.Proofs.YtnpkbjekodjcjaaDoor
