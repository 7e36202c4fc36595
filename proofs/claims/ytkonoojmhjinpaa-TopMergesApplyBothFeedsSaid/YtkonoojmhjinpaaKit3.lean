/- Regions that draw their order and hold calls: what reads is taken first, under a condition on the world; a call by its contract. -/
import Derived.Test.YtkonoojmhjinpaaKit2
import Derived.OrdersHeld
import Derived.BigCall
set_option linter.all false
namespace Go.Fen
open Go Go.RowKit
variable {P : Program} {ops : Array Oper} {Q : Exit → Act → World → Prop} {a : Act} {w : World} {K : Act → World → Prop} {S : World → Prop} {md : Region.Mode}

/-- a function of the program that has a body -/
def Program.callable (P : Program) (f : FuncId) : Bool := (P.funcs[f]?).any fun fn => fn.body.isSome && !(fn.name == "runtime.NumGoroutine")

theorem run_callFunc {f : FuncId} (h : Program.callable P f = true) (args : Array Value) : (callFunc f args).run P w = .ok (.enter f args) w := by
  unfold Program.callable at h
  cases hf : P.funcs[f]? with
  | none => simp [hf] at h
  | some fn =>
    simp only [hf, Option.any_some, Bool.and_eq_true, Bool.not_eq_true'] at h
    have hb : fn.body.isNone = false := by cases hb : fn.body <;> simp_all
    have e : (callFunc f args).run P w = (match P.funcs[f]? with
        | none => (stuck "call: no such function" : Sem Next).run P w
        | some fn => (if fn.name == "runtime.NumGoroutine" then pure .numGoroutine else if fn.body.isNone then (callFunc f args) else pure (.enter f args) : Sem Next).run P w) := by
      rw [hf]
      simp only [h.2, hb, Bool.false_eq_true, if_false]
      unfold callFunc
      rw [Sem.run_bind]
      show (Result.ok P w).andThen _ = _
      simp only [Result.andThen_ok, hf, h.2, hb, Bool.false_eq_true, if_false]
    rw [e, hf]
    simp only [h.2, hb, Bool.false_eq_true, if_false]
    rfl

/-- A call of a named function, by its contract. -/
theorem wp_call_ret {o : Oper} {f : FuncId} {xs : Array Operand} {ats : Array TypeId} (ho : o.op = .call { callee := .value (.func f), args := xs, argTypes := ats }) (hf : Program.callable P f = true) {args : Array Value} {R : Ending → World → Prop}
    (hc : Calls P f args w R) (hargs : xs.map a.eval = args) {d : Tmp} (hd : o.dst = some d) (hR : ∀ e w', R e w' → ∃ v, e = .returned v ∧ K (a.put (some d) v) w') : o.wp P a w K Q := by
  rw [← hd] at hR
  obtain ⟨dst, op, ty, pos, after, guard⟩ := o
  simp only at ho
  subst ho
  unfold Oper.wp
  rw [execOp_call_go]
  have e : #[] ++ xs.map a.eval ++ #[] = args := by rw [hargs]; simp
  rw [e, run_callFunc hf]
  rw [Oper.upon_enter]
  refine hc.mono fun e w' he => ?_
  obtain ⟨v, rfl, hk⟩ := hR e w' he
  exact hk

theorem yieldsIf_arr {op : Oper} (hw : Region.wanted op (yielded ops a.tmps) = true) (ty : TypeId) (x : Operand) (ho : op.op = .load ty x) (g : Nat) (cs : Array Value) {n : Nat} {e : TypeId} (hu : P.underlying ty = some (.array n e)) (hs : (P.info? ty).map (·.size) = some cs.size)
    (hx : a.eval x = .pointer (some ⟨g, 0, none⟩)) (hS : ∀ W, S W → ∃ t, Row W g t cs) : YieldsIf P ops S op (.agg cs) a :=
  .inl ⟨hw, fun W hW => by
    obtain ⟨t, hr⟩ := hS W hW
    unfold execOp
    simp only [ho, hx, Instr.loadAt, Instr.sureAddr, Sem.run_bind, Sem.run_pure, Result.andThen_ok, loadVar_row W g t ty cs hr hu hs]⟩

theorem yieldsIf_move {op : Oper} (hw : Region.wanted op (yielded ops a.tmps) = true) (x : Operand) (ho : op.op = .move x) : YieldsIf P ops S op (a.eval x) a :=
  .inl ⟨hw, fun W _ => by unfold execOp; simp only [ho, Sem.run_pure]⟩

/-- any operation that yields its value, whatever the world -/
theorem yieldsIf_run {op : Oper} {v : Value} (hw : Region.wanted op (yielded ops a.tmps) = true) (h : ∀ W, S W → (execOp a.eval op).run P W = .ok (.value v) W) : YieldsIf P ops S op v a := .inl ⟨hw, h⟩

/-- one operation alone may come up -/
theorem wpAnyH_one {i : Nat} {o : Oper} {fuel : Nat} {listed : Array Bool} (hr : Region.ready md ops listed = [i]) (ho : ops[i]? = some o) (hw : Region.wanted o (yielded ops a.tmps) = true)
    (h : o.wp P a w (fun a' w' => S w' ∧ wpAnyH P md ops Q S fuel (listed.setIfInBounds i true) a' w') Q) : wpAnyH P md ops Q S (fuel + 1) listed a w := by
  refine wpAnyH_all hr (by simp) ?_
  intro j hj
  simp only [List.mem_cons, List.not_mem_nil, or_false] at hj
  subst hj
  unfold wpOp
  simp only [ho, hw, if_true]
  exact .inl h

section
variable {oi : Oper} {fuel : Nat} {listed : Array Bool}
/-- a copy is taken first -/
theorem take_move (i : Nat) (d : Tmp) (x : Operand) (v : Value) (hi : ops[i]? = some oi) (hd : oi.dst = some d) (ho : oi.op = .move x) (hx : a.eval x = v) (hw : Region.wanted oi (yielded ops a.tmps) = true)
    (hs : Region.noSelect ops = true) (hf : Region.free md ops listed i = true) (hr : (Region.ready md ops listed).contains i = true)
    (hQ : ∀ c a w, Q (.panic c) (a.put (some d) v) w → Q (.panic c) a w) (hS : S w)
    (h : wpAnyH P md ops Q S fuel (listed.setIfInBounds i true) (a.put (some d) v) w) : wpAnyH P md ops Q S (fuel + 1) listed a w := by
  subst hx
  exact wpAnyH_take hi hs hf hr (by rw [hd]; exact hQ) (yieldsIf_move hw x ho) hS (by rw [hd]; exact h)
/-- an array's load is taken first -/
theorem take_arr (i : Nat) (d : Tmp) (ty : TypeId) (x : Operand) (g : Nat) (cs : Array Value) {n : Nat} {e : TypeId} (hu : P.underlying ty = some (.array n e)) (hsz : (P.info? ty).map (·.size) = some cs.size) (hrow : ∀ W, S W → ∃ t, Row W g t cs)
    (hi : ops[i]? = some oi) (hd : oi.dst = some d) (ho : oi.op = .load ty x) (hx : a.eval x = .pointer (some ⟨g, 0, none⟩)) (hw : Region.wanted oi (yielded ops a.tmps) = true)
    (hs : Region.noSelect ops = true) (hf : Region.free md ops listed i = true) (hr : (Region.ready md ops listed).contains i = true)
    (hQ : ∀ c a w, Q (.panic c) (a.put (some d) (.agg cs)) w → Q (.panic c) a w) (hS : S w)
    (h : wpAnyH P md ops Q S fuel (listed.setIfInBounds i true) (a.put (some d) (.agg cs)) w) : wpAnyH P md ops Q S (fuel + 1) listed a w :=
  wpAnyH_take hi hs hf hr (by rw [hd]; exact hQ) (yieldsIf_arr hw ty x ho g cs hu hsz hx hrow) hS (by rw [hd]; exact h)
/-- whatever yields a value is taken first -/
theorem take_run (i : Nat) (d : Tmp) (v : Value) (hi : ops[i]? = some oi) (hd : oi.dst = some d) (hw : Region.wanted oi (yielded ops a.tmps) = true) (hrun : ∀ W, S W → (execOp a.eval oi).run P W = .ok (.value v) W)
    (hs : Region.noSelect ops = true) (hf : Region.free md ops listed i = true) (hr : (Region.ready md ops listed).contains i = true)
    (hQ : ∀ c a w, Q (.panic c) (a.put (some d) v) w → Q (.panic c) a w) (hS : S w)
    (h : wpAnyH P md ops Q S fuel (listed.setIfInBounds i true) (a.put (some d) v) w) : wpAnyH P md ops Q S (fuel + 1) listed a w :=
  wpAnyH_take hi hs hf hr (by rw [hd]; exact hQ) (.inl ⟨hw, hrun⟩) hS (by rw [hd]; exact h)
end
end Go.Fen
