/- A few laws of general use beside the other texts. No program is named here. -/
import Derived.Test.YtkonoojmhjinpaaKit
set_option linter.all false
namespace Go.Fen
open Go Go.RowKit
theorem wpList_atE {P : Program} {ops : Array Oper} {rest : List Oper} {a : Act} {Q : Exit → Act → World → Prop} {w w' : World} (e : w' = w) (h : wpList P ops Q rest a w') : wpList P ops Q rest a w := e ▸ h
theorem setRow_new (w : World) (z c : Array Value) (t : TypeId) (g : Nat) (hg : g = w.heap.size) : (w.alloc (.cells z t)).setRow g c = w.alloc (.cells c t) := by
  subst hg
  exact World.setRow_alloc_new _ _ _ _
end Go.Fen
