/- A new variable of whatever type. -/
import Derived.Test.YtkonoojmhjinpaaK4
set_option linter.all false
namespace Go.Proofs.Ytkonoojmhjinpaa
open Go.RowKit Go.Fen
set_option linter.unusedVariables false

section
variable {P : Program} {ops : Array Oper} {rest : List Oper} {a : Act} {w : World} {Q : Exit → Act → World → Prop}
/-- a new variable of a type of one cell -/
theorem wpList_alloc_val {o : Oper} (h1 : o.guard = none) (ty : TypeId) (ho : o.op = .alloc ty) (z : Value) (hz : (P.info? ty).bind (·.zero) = some z) (g : Nat) (hg : g = w.heap.size)
    (h : wpList P ops Q rest (a.put o.dst (.pointer (some ⟨g, 0, none⟩))) (w.alloc (.cells z.cells ty))) : wpList P ops Q (o :: rest) a w := by
  subst hg
  refine wpList_plain h1 fun K hK => ?_
  cases hi : P.info? ty with
  | none => simp [hi] at hz
  | some i =>
    have hz' : i.zero = some z := by simpa [hi] using hz
    unfold Oper.wp execOp
    simp only [ho, Sem.run_bind]
    have hal : (Instr.alloc ty true (.tuple #[])).run P w = .ok (.pointer (some ⟨w.heap.size, 0, none⟩)) (w.alloc (.cells z.cells ty)) := by
      simp [Instr.alloc, zeroValue, typeInfo, hi, hz', newVar, newRow, newObj]
      rfl
    rw [hal]
    exact hK _ _ h
end
end Go.Proofs.Ytkonoojmhjinpaa
