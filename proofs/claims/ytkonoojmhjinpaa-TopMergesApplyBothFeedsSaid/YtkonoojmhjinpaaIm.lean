/- Contracts: items. -/
import Derived.Test.YtkonoojmhjinpaaIf
set_option linter.all false
namespace Go.Proofs.Ytkonoojmhjinpaa
open Go.RowKit Go.Fen
set_option linter.unusedVariables false
set_option maxHeartbeats 4000000

/-- one cell of an owned list turns -/
theorem owns_set {w : World} {B n g cap : Nat} {e : TypeId} {k : Nat} {xs : List Value} (h : w.ownsRow B e k (.slice (some ⟨g, 0, none⟩) n cap) n xs) (i : Nat) (hi : i < n * k) (v : Value) : (w.setCell ⟨g, i, none⟩ v).ownsRow B e k (.slice (some ⟨g, 0, none⟩) n cap) n (xs.set i v) := by
  refine ⟨by rw [List.length_set]; exact h.1, ?_⟩
  rcases h.2 with ⟨hv, _⟩ | ⟨g', cap', cur, hv, hb, hg, h1, h2, h3, h4⟩
  · cases hv
  · injection hv with e1 e2 e3
    injection e1 with e1
    injection e1 with e1 e4
    subst e1 e3
    have hr : Row w g e cur := hg
    refine .inr ⟨g, cap, cur.setIfInBounds i v, rfl, hb, hr.set i v, h1, h2, by simpa using h3, ?_⟩
    rw [Array.toList_setIfInBounds, List.take_set, h4]
theorem owns_row {w : World} {B n g cap : Nat} {e : TypeId} {k : Nat} {xs : List Value} (h : w.ownsRow B e k (.slice (some ⟨g, 0, none⟩) n cap) n xs) : ∃ cur, Row w g e cur := by
  rcases h.2 with ⟨hv, _⟩ | ⟨g', cap', cur, hv, hb, hg, h1, h2, h3, h4⟩
  · cases hv
  · injection hv with e1 e2 e3
    injection e1 with e1
    injection e1 with e1 e4
    subst e1
    exact ⟨cur, hg⟩
theorem owns_cell {w : World} {B n g cap : Nat} {e : TypeId} {k : Nat} {xs : List Value} (h : w.ownsRow B e k (.slice (some ⟨g, 0, none⟩) n cap) n xs) (i : Nat) (v : Value) (hi : xs[i]? = some v) : w.cell? ⟨g, i, none⟩ = some v := by
  have := h.cellAt i (by rw [← h.1]; exact (List.getElem?_eq_some_iff.1 hi).1)
  rw [hi] at this
  exact this
theorem it_cell {w : World} {B g cap : Nat} {pre : List It} {z : It} (h : w.ownsRow B 87 3 (.slice (some ⟨g, 0, none⟩) (pre.length + 1) cap) (pre.length + 1) ((pre ++ [z]).flatMap itc)) (j : Nat) (v : Value) (hj : (itc z)[j]? = some v) : w.cell? ⟨g, pre.length * 3 + j, none⟩ = some v := by
  have h3 : j < 3 := (List.getElem?_eq_some_iff.1 hj).1
  refine owns_cell h _ v ?_
  rw [get_fl length_itc (pre ++ [z]) pre.length j z (by simp) h3]
  exact hj
theorem it_set {w : World} {B g cap : Nat} {pre : List It} {z : It} (h : w.ownsRow B 87 3 (.slice (some ⟨g, 0, none⟩) (pre.length + 1) cap) (pre.length + 1) ((pre ++ [z]).flatMap itc)) (z' : It) (j : Nat) (hj : j < 3) (v : Value) (hz : (itc z).set j v = itc z') : (w.setCell ⟨g, pre.length * 3 + j, none⟩ v).ownsRow B 87 3 (.slice (some ⟨g, 0, none⟩) (pre.length + 1) cap) (pre.length + 1) ((pre ++ [z']).flatMap itc) := by
  have := owns_set h (pre.length * 3 + j) (by omega) v
  refine cast ?_ this
  congr 1
  rw [List.flatMap_append, List.flatMap_append, List.set_append_right _ _ (by rw [length_fl length_itc]; omega), length_fl length_itc, show pre.length * 3 + j - pre.length * 3 = j by omega]
  simp only [List.flatMap_cons, List.flatMap_nil, List.append_nil]
  rw [hz]
/-- what an event does to an item -/
def setK (t : Int × Option Rv × Option Rv) (e : Ev) : Int × Option Rv × Option Rv := if e.k = 2 then (t.1, some e.r, t.2.2) else (t.1, t.2.1, some e.r)
def stepI (acc : List (Int × Option Rv × Option Rv)) (e : Ev) : List (Int × Option Rv × Option Rv) :=
  match acc.getLast? with
  | some t => if t.1 = e.n then acc.dropLast ++ [setK t e] else acc ++ [setK (e.n, none, none) e]
  | none => [setK (e.n, none, none) e]
def itemsK (E : List Ev) : List (Int × Option Rv × Option Rv) := E.foldl stepI []
theorem itemsK_take (E : List Ev) (k : Nat) (x : Ev) (h : E[k]? = some x) : itemsK (E.take (k + 1)) = stepI (itemsK (E.take k)) x := by
  unfold itemsK
  rw [List.take_add_one, h, List.foldl_append]
  rfl
theorem stepI_new {its : List It} {pre : List It} {z : It} {x : Ev} (hi : its = pre ++ [z]) (hne : z.n ≠ x.n) : stepI (its.map keyI) x = its.map keyI ++ [setK (x.n, none, none) x] := by
  subst hi
  unfold stepI
  simp [keyI, hne]
theorem stepI_old {pre : List It} {z : It} {x : Ev} (he : z.n = x.n) : stepI ((pre ++ [z]).map keyI) x = pre.map keyI ++ [setK (keyI z) x] := by
  unfold stepI
  simp [keyI, he]
/-- the items so far -/
def ItG (w0 : World) (its : List It) (v : Value) (w : World) : Prop := w.ownsRow w0.heap.size 87 3 v its.length (its.flatMap itc) ∧ Below w0.heap.size w0 w
theorem ItG.bel {w0 w w' : World} {E : List It} {v : Value} (h : ItG w0 E v w) (hb : Below w.heap.size w w') : ItG w0 E v w' :=
  ⟨owns_below h.1 hb (Nat.le_refl _), h.2.trans (hb.mono h.2.size)⟩
theorem ItG.push {w0 w w1 w' : World} {E : List It} {e : It} {v v' : Value} {n : Nat} (h : ItG w0 E v w) (hb : Below w.heap.size w w1) (hv : w'.ownsRow w0.heap.size 87 3 v' n (E.flatMap itc ++ itc e)) (hn : n = E.length + 1) (hg : w1.grownBy w' v.ownBlock) : ItG w0 (E ++ [e]) v' w' := by
  refine ⟨?_, ?_⟩
  · rw [List.length_append, List.length_singleton, ← hn, ← fl_snoc]; exact hv
  · exact Below.grown (h.2.trans (hb.mono h.2.size)) hg (Nat.le_trans h.2.size hb.size) (fun k hk => (h.1.lt k hk).1)
theorem ItG.set {w0 w : World} {g cap : Nat} {pre : List It} {z z' : It} (h : ItG w0 (pre ++ [z]) (.slice (some ⟨g, 0, none⟩) (pre.length + 1) cap) w) (j : Nat) (hj : j < 3) (v : Value) (hz : (itc z).set j v = itc z') : ItG w0 (pre ++ [z']) (.slice (some ⟨g, 0, none⟩) (pre.length + 1) cap) (w.setCell ⟨g, pre.length * 3 + j, none⟩ v) := by
  have h1 := h.1
  rw [List.length_append, List.length_singleton] at h1
  refine ⟨by rw [List.length_append, List.length_singleton]; exact it_set h1 z' j hj v hz, h.2.setCell (h1.lt g rfl).1 _⟩
end Go.Proofs.Ytkonoojmhjinpaa
