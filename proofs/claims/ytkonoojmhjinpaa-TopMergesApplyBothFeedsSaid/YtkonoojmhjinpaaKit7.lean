/- A drawn region whose last operation alone writes, over a class of worlds. No program is named here. -/
import Derived.Test.YtkonoojmhjinpaaKit5
import Derived.Lib.QuietBelow
set_option linter.all false
namespace Go.Fen
open Go Go.RowKit
variable {P : Program}
section
theorem wp_region_quiet_last_in {id : Nat} (C : World → Prop) {Q : Exit → Act → World → Prop} {a : Act} {w : World} {l : List Oper} (hC : C { w with drawn := w.drawn + 1 }) (hm : P.follows .mixedOrders = true) (hB : quietLastB .any l.toArray = true)
    (o : Oper) (ho : l.getLast? = some o)
    (h : wpQuiet P l.toArray C (fun a' => ∀ w', C w' → wpList P l.toArray Q [o] a' w') l.dropLast a) : (Code.region id l.toArray true).wp P Q a w := by
  simp only [quietLastB, Bool.and_eq_true] at hB
  obtain ⟨⟨hsel, hl⟩, hx⟩ := hB
  obtain ⟨h1, hE, hT⟩ := lastB_spec hl
  refine wp_region_any hm ?_
  have hn : l.toArray.size = (l.toArray.size - 1) + 1 := h1.symm
  rw [hn]
  have hlast : l.toArray[l.toArray.size - 1]? = some o := by
    rw [← ho, List.getLast?_eq_getElem?]; simp
  have hlen : l.dropLast.length = l.toArray.size - 1 := by simp
  refine wpAny_of_quiet_last (C := C) (last := l.toArray.size - 1) h1 hE hT _ _ a _ hC (by simp only [Array.size_replicate]; exact hn.symm) ?_ ?_
  · have h2 : l.toArray.size - 1 < l.toArray.size := by omega
    simp only [List.size_toArray] at h2 ⊢
    have h3 : 0 < l.length := by omega
    simp [h3]
  · rw [← hlen] at hx ⊢
    rw [show l.dropLast.length + 1 = l.toArray.size by rw [hlen]; exact hn.symm]
    refine wpAnyQ_lex' (ops := l.toArray) hsel l.dropLast 0 _ a (fun j hj => ?_) hx ?_
    · rw [List.getElem?_dropLast, if_pos (by simp at hj; exact hj)]; simp
    · refine cast ?_ h
      congr 1
      funext a'
      apply forall_congr
      intro w'
      apply propext
      constructor
      · intro H hw
        have := H hw
        unfold wpOp
        rw [hlen, hlast]
        exact this
      · intro H hw
        have := H hw
        unfold wpOp at this
        rw [hlen, hlast] at this
        exact this
end
theorem wp_value {P : Program} {a : Act} {w w' : World} {K : Act → World → Prop} {Q : Exit → Act → World → Prop} {o : Oper} {d : Tmp} (hd : o.dst = some d) {v : Value} (h : (execOp a.eval o).run P w = .ok (.value v) w') (hk : K (a.put (some d) v) w') : o.wp P a w K Q := by
  unfold Oper.wp
  rw [h, Oper.upon_value, hd]
  exact hk
section
variable {a : Act} {w : World} {K : Act → World → Prop} {Q : Exit → Act → World → Prop}
theorem wp_call_val {o : Oper} {x : Operand} {f : FuncId} {lb : Array Value} {xs : Array Operand} {ats : Array TypeId} (ho : o.op = .call { callee := .value x, args := xs, argTypes := ats }) (hx : a.eval x = .func (.func f) #[] lb) (hf : Program.callable P f = true) {args : Array Value} {R : Ending → World → Prop}
    (hc : Calls P f args w R) (hargs : xs.map a.eval ++ lb = args) {d : Tmp} (hd : o.dst = some d) (hR : ∀ e w', R e w' → ∃ v, e = .returned v ∧ K (a.put (some d) v) w') : o.wp P a w K Q := by
  rw [← hd] at hR
  obtain ⟨dst, op, ty, pos, after, guard⟩ := o
  simp only at ho
  subst ho
  unfold Oper.wp
  have e0 : execOp a.eval { dst := dst, op := .call { callee := .value x, args := xs, argTypes := ats }, type := ty, pos := pos, after := after, guard := guard } = callFunc f (#[] ++ xs.map a.eval ++ lb) := by
    unfold execOp
    simp only [resolve, hx]
    rfl
  rw [e0]
  have e : #[] ++ xs.map a.eval ++ lb = args := by rw [← hargs]; simp
  rw [e, run_callFunc hf]
  rw [Oper.upon_enter]
  refine hc.mono fun e w' he => ?_
  obtain ⟨v, rfl, hk⟩ := hR e w' he
  exact hk
end
end Go.Fen
