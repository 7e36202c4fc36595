/- Two variables that a closure turns: the table so far, the gap. -/
import Derived.Test.YtkonoojmhjinpaaIw
set_option linter.all false
namespace Go.Proofs.Ytkonoojmhjinpaa
open Go.RowKit Go.Fen
set_option linter.unusedVariables false
set_option maxHeartbeats 4000000

/-- no block of type T has turned -/
def Keeps (w w' : World) (T : TypeId) : Prop := w.heap.size ≤ w'.heap.size ∧ ∀ (j : Nat) (cs : Array Value) (fr : Nat × Nat), w.heap[j]? = some (Obj.cells cs T fr) → w'.heap[j]? = w.heap[j]?
theorem Lt.keep {α : Type} {T : TypeId} {k : Nat} {c : α → List Value} {w w' : World} {a : Option Addr} {L : List α} (h : Lt T k c w a L) (hk : Keeps w w' T) : Lt T k c w' a L := by
  rcases h with h | ⟨g', o, ea, hg, hc, cs, fr, htag⟩
  · exact .inl h
  · have e := hk.2 _ _ _ htag
    exact .inr ⟨g', o, ea, Nat.lt_of_lt_of_le hg hk.1, fun i f hf j v hv => (World.cell?_of_block e).trans (hc i f hf j v hv), cs, fr, e.trans htag⟩
theorem Rok.keep {w w' : World} {r : Rv} (h : Rok w r) (hk : Keeps w w' 58) : Rok w' r := ⟨h.1.keep hk, h.2⟩
theorem Lns.keep {w w' : World} {a : Option Addr} {L : List Ln} (h : Lns w a L) (h1 : Keeps w w' 45) (h2 : Keeps w w' 58) : Lns w' a L := ⟨h.1.keep h1, fun l hl => (h.2 l hl).keep h2⟩
theorem Pt.keep {w w' : World} {p : Option Addr} {x : Option Rv} (h : Pt w p x) (h1 : Keeps w w' 45) (h2 : Keeps w w' 71) (h3 : Keeps w w' 58) : Pt w' p x := by
  rcases h with h | ⟨g, o, r, hp, hx, hg, hc, hr, cs, t, fr, htag, ht⟩
  · exact .inl h
  · have e : w'.heap[g]? = w.heap[g]? := by
      rcases ht with q | q
      · subst q; exact h1.2 _ _ _ htag
      · subst q; exact h2.2 _ _ _ htag
    exact .inr ⟨g, o, r, hp, hx, Nat.lt_of_lt_of_le hg h1.1, (World.cell?_of_block e).trans hc, hr.keep h3, cs, t, fr, e.trans htag, ht⟩
theorem IOk.keep {w w' : World} {i : It} (h : IOk w i) (h1 : Keeps w w' 45) (h2 : Keeps w w' 71) (h3 : Keeps w w' 58) : IOk w' i := ⟨h.1.keep h1 h2 h3, h.2.keep h1 h2 h3⟩
/-- besides two blocks nothing has turned -/
structure Kept2 (V0 w : World) (gv gg : Nat) : Prop where
  os : w.os = V0.os
  tape : w.tape = V0.tape
  output : w.output = V0.output
  size : V0.heap.size ≤ w.heap.size
  block : ∀ j, j < V0.heap.size → j ≠ gv → j ≠ gg → w.heap[j]? = V0.heap[j]?
/-- in w the variable at gv holds the table so far, the one at gg whether there is a gap -/
structure AccX (V0 : World) (gv gg : Nat) (N : Int) (u : Value) (b : Bool) (L : List Ln) (w : World) : Prop where
  own : w.ownsRow V0.heap.size 45 2 u L.length (L.flatMap lnc)
  tab : Row w gv 38 #[.int .i64 N, u]
  gap : Row w gg 4 #[.bool b]
  kept : Kept2 V0 w gv gg
  lt1 : gv < V0.heap.size
  lt2 : gg < V0.heap.size
  ne : gv ≠ gg
  t1 : ∃ z fr, V0.heap[gv]? = some (Obj.cells z 38 fr)
  t2 : ∃ z fr, V0.heap[gg]? = some (Obj.cells z 4 fr)
section
variable {V0 w w1 w' : World} {gv gg : Nat} {N : Int} {u u' : Value} {b : Bool} {L : List Ln}
theorem AccX.keeps (h : AccX V0 gv gg N u b L w) (T : TypeId) (h1 : T ≠ 38) (h2 : T ≠ 4) : Keeps V0 w T := by
  refine ⟨h.kept.size, fun j cs fr hj => h.kept.block j ?_ ?_ ?_⟩
  · exact (Array.getElem?_eq_some_iff.1 hj).1
  · intro e
    subst e
    obtain ⟨z, fr', hz⟩ := h.t1
    rw [hz] at hj
    injection hj with hj
    injection hj with _ h3 _
    exact h1 h3.symm
  · intro e
    subst e
    obtain ⟨z, fr', hz⟩ := h.t2
    rw [hz] at hj
    injection hj with hj
    injection hj with _ h3 _
    exact h2 h3.symm
theorem AccX.call (h : AccX V0 gv gg N u b L w) (hb : Below w.heap.size w w') : AccX V0 gv gg N u b L w' :=
  ⟨owns_below h.own hb (Nat.le_refl _), h.tab.below hb h.tab.lt, h.gap.below hb h.gap.lt, ⟨hb.os.trans h.kept.os, hb.tape.trans h.kept.tape, hb.output.trans h.kept.output, Nat.le_trans h.kept.size hb.size, fun j hj h1 h2 => (hb.block j (Nat.lt_of_lt_of_le hj h.kept.size)).trans (h.kept.block j hj h1 h2)⟩, h.lt1, h.lt2, h.ne, h.t1, h.t2⟩
theorem AccX.drewN (h : AccX V0 gv gg N u b L w) (q : Nat) : AccX V0 gv gg N u b L (w.drewN q) := h.call (below_drewN (Below.refl _ _) q)
theorem AccX.bel (h : AccX V0 gv gg N u b L w) {B : Nat} (h1 : B ≤ gv) (h2 : B ≤ gg) : Below B V0 w :=
  ⟨h.kept.os, h.kept.tape, h.kept.output, h.kept.size, fun j hj => h.kept.block j (by have := h.lt1; omega) (by omega) (by omega)⟩
theorem AccX.setGap (h : AccX V0 gv gg N u b L w) (z : Bool) : AccX V0 gv gg N u z L (w.setCell ⟨gg, 0, none⟩ (.bool z)) := by
  have ng : u.ownBlock ≠ some gg := fun e => by have := (h.own.lt gg e).1; have := h.lt2; omega
  refine ⟨ownsRow_setCell_other h.own (a := ⟨gg, 0, none⟩) ng _, ?_, h.gap.set 0 _, ⟨h.kept.os, h.kept.tape, h.kept.output, ?_, ?_⟩, h.lt1, h.lt2, h.ne, h.t1, h.t2⟩
  · exact (Below.heap_setCell _ ⟨gg, 0, none⟩ _ _ h.ne).trans h.tab
  · have := h.kept.size; simp [World.setCell]; exact this
  · intro j hj h1 h2
    exact (Below.heap_setCell _ ⟨gg, 0, none⟩ _ _ h2).trans (h.kept.block j hj h1 h2)
theorem AccX.setNext (h : AccX V0 gv gg N u b L w) (M : Int) : AccX V0 gv gg M u b L (w.setCell ⟨gv, 0, none⟩ (.int .i64 M)) := by
  have ng : u.ownBlock ≠ some gv := fun e => by have := (h.own.lt gv e).1; have := h.lt1; omega
  refine ⟨ownsRow_setCell_other h.own (a := ⟨gv, 0, none⟩) ng _, h.tab.set 0 _, (Below.heap_setCell _ ⟨gv, 0, none⟩ _ _ h.ne.symm).trans h.gap, ⟨h.kept.os, h.kept.tape, h.kept.output, ?_, ?_⟩, h.lt1, h.lt2, h.ne, h.t1, h.t2⟩
  · have := h.kept.size; simp [World.setCell]; exact this
  · intro j hj h1 h2
    exact (Below.heap_setCell _ ⟨gv, 0, none⟩ _ _ h1).trans (h.kept.block j hj h1 h2)
theorem AccX.push {l : Ln} {n : Nat} (h : AccX V0 gv gg N u b L w) (h1 : Below w.heap.size w w1) (hv' : w'.ownsRow V0.heap.size 45 2 u' n (L.flatMap lnc ++ lnc l)) (hn : n = L.length + 1) (hg : w1.grownBy w' u.ownBlock) :
    Row w' gv 38 #[.int .i64 N, u] ∧ AccX V0 gv gg N u' b (L ++ [l]) (w'.setCell ⟨gv, 1, none⟩ u') := by
  have hge : ∀ k, u.ownBlock = some k → V0.heap.size ≤ k := fun k hk => (h.own.lt k hk).1
  have A1 := h.call h1
  have n1 : u.ownBlock ≠ some gv := fun e => by have := hge gv e; have := h.lt1; omega
  have n2 : u.ownBlock ≠ some gg := fun e => by have := hge gg e; have := h.lt2; omega
  have r1 : Row w' gv 38 _ := A1.tab.grown hg (fun e => n1 e.symm)
  have r2 : Row w' gg 4 _ := A1.gap.grown hg (fun e => n2 e.symm)
  have n3 : u'.ownBlock ≠ some gv := fun e => by have := (hv'.lt gv e).1; have := h.lt1; omega
  have hv2 : w'.ownsRow V0.heap.size 45 2 u' (L ++ [l]).length ((L ++ [l]).flatMap lnc) := by
    rw [List.length_append, List.length_singleton, ← hn, ← fl_snoc]; exact hv'
  refine ⟨r1, ownsRow_setCell_other hv2 (a := ⟨gv, 1, none⟩) n3 _, r1.set 1 _, (Below.heap_setCell _ ⟨gv, 1, none⟩ _ _ h.ne.symm).trans r2, ⟨hg.os.trans A1.kept.os, hg.tape.trans A1.kept.tape, hg.output.trans A1.kept.output, ?_, ?_⟩, h.lt1, h.lt2, h.ne, h.t1, h.t2⟩
  · have := A1.kept.size; have := hg.size; simp [World.setCell]; omega
  · intro j hj h3 h4
    rw [Below.heap_setCell _ ⟨gv, 1, none⟩ _ _ h3, hg.block j (Nat.lt_of_lt_of_le hj A1.kept.size) (fun e => by have := hge j e.symm; omega)]
    exact A1.kept.block j hj h3 h4
end
/-- the state of a number behind a feed's item; whether there is a gap -/
def aft (x : Option Rv) : Option It → Option Rv
  | none => x
  | some i => i.y
def gapOf (x : Option Rv) : Option It → Bool
  | none => false
  | some i => !(sameS x i.x)
def outOf (m : Int) : Option Rv → List Ln
  | none => []
  | some r => [⟨m, r⟩]
def nextOf (N m : Int) : Option Rv → Int
  | none => N
  | some _ => max N (m + 1)
/-- an item's pointer -/
def PIt (w : World) (q : Option Addr) (y : Option It) : Prop := (q = none ∧ y = none) ∨ ∃ g o i, q = some ⟨g, o, none⟩ ∧ y = some i ∧ w.rangeAt g o (itc i) ∧ IOk w i ∧ ∃ cs fr, w.heap[g]? = some (Obj.cells cs 87 fr)
theorem range_keep {w w' : World} {g o : Nat} {l : List Value} {T : TypeId} {cs : Array Value} {fr : Nat × Nat} (h : w.rangeAt g o l) (ht : w.heap[g]? = some (Obj.cells cs T fr)) (hk : Keeps w w' T) : w'.rangeAt g o l := fun j v hv => (World.cell?_of_block (hk.2 _ _ _ ht)).trans (h j v hv)
end Go.Proofs.Ytkonoojmhjinpaa
