/- Lists in memory, in a block that is tagged by its elements' type. -/
import Derived.Test.YtkonoojmhjinpaaT
set_option linter.all false
namespace Go.Proofs.Ytkonoojmhjinpaa
open Go.RowKit Go.Fen
set_option linter.unusedVariables false
set_option maxHeartbeats 4000000

section
variable {α : Type} {T : TypeId} {k : Nat} {c : α → List Value}
/-- a list lies in memory, in a block of elements of type T -/
def Lt (T : TypeId) (k : Nat) (c : α → List Value) (w : World) (a : Option Addr) (L : List α) : Prop :=
  L.length = 0 ∨ ∃ g o, a = some ⟨g, o, none⟩ ∧ g < w.heap.size ∧ (∀ i x, L[i]? = some x → w.rangeAt g (o + i * k) (c x)) ∧ ∃ cs fr, w.heap[g]? = some (.cells cs T fr)
theorem Lt.ls {w : World} {a : Option Addr} {L : List α} (h : Lt T k c w a L) : Ls k c w a L := by
  rcases h with h | ⟨g, o, ea, hg, hc, _⟩
  · exact .inl h
  · exact .inr ⟨g, o, ea, hg, hc⟩
theorem Lt.below {w w' : World} {B : Nat} {a : Option Addr} {L : List α} (h : Lt T k c w a L) (hb : Below B w w') (hB : w.heap.size ≤ B) : Lt T k c w' a L := by
  rcases h with h | ⟨g, o, ea, hg, hc, cs, fr, ht⟩
  · exact .inl h
  · exact .inr ⟨g, o, ea, Nat.lt_of_lt_of_le hg hb.size, fun i x hx => range_below (hc i x hx) hb (Nat.lt_of_lt_of_le hg hB), cs, fr, (hb.block g (Nat.lt_of_lt_of_le hg hB)).trans ht⟩
theorem Lt.bel {w w' : World} {a : Option Addr} {L : List α} (h : Lt T k c w a L) (hb : Below w.heap.size w w') : Lt T k c w' a L := h.below hb (Nat.le_refl _)
theorem Lt.form {w : World} {a : Option Addr} {L : List α} (h : Lt T k c w a L) (hn : 0 < L.length) : ∃ g o, a = some ⟨g, o, none⟩ ∧ g < w.heap.size ∧ ∀ i x, L[i]? = some x → w.rangeAt g (o + i * k) (c x) := h.ls.some hn
theorem lt_of_own (hk : ∀ x, (c x).length = k) {w : World} {base n : Nat} {v : Value} {L : List α} (h : w.ownsRow base T k v n (L.flatMap c)) (hn : n = L.length) : ∃ a cap, v = .slice a n cap ∧ Lt T k c w a L := by
  rcases h.2 with ⟨hv, h0⟩ | ⟨g, cap, cur, hv, hbg, hg, r⟩
  · subst h0; exact ⟨none, 0, hv, .inl hn.symm⟩
  · refine ⟨some ⟨g, 0, none⟩, cap, hv, .inr ⟨g, 0, rfl, (Array.getElem?_eq_some_iff.1 hg).1, fun i x hx j u hu => ?_, cur, _, hg⟩⟩
    subst hv
    have hj : j < k := by rw [← hk x]; exact (List.getElem?_eq_some_iff.1 hu).1
    have hi : i < L.length := (List.getElem?_eq_some_iff.1 hx).1
    have hik : i * k + j < n * k := by
      have : (i + 1) * k ≤ n * k := Nat.mul_le_mul_right _ (by omega)
      rw [Nat.add_mul] at this; omega
    have := h.cellAt (i * k + j) hik
    rw [get_fl hk L i j x hx hj, hu] at this
    rw [Nat.zero_add]
    exact this
theorem lt_put (hk : ∀ x, (c x).length = k) {w : World} {base g : Nat} {v : Value} {L : List α} (h : w.ownsRow base T k v L.length (L.flatMap c)) (hg : g < base) (cs : Array Value) : ∃ a cap, v = .slice a L.length cap ∧ Lt T k c (w.setRow g cs) a L :=
  lt_of_own hk (owns_put h hg cs) rfl
/-- one block of another type has turned -/
theorem Lt.but {w w' : World} {a : Option Addr} {L : List α} {g : Nat} {t : TypeId} {z : Array Value} (h : Lt T k c w a L) (hr : Row w g t z) (ht : t ≠ T) (hs : w.heap.size ≤ w'.heap.size) (hw : ∀ k, k < w.heap.size → k ≠ g → w'.heap[k]? = w.heap[k]?) : Lt T k c w' a L := by
  rcases h with h | ⟨g', o, ea, hg, hc, cs, fr, htag⟩
  · exact .inl h
  · have hne : g' ≠ g := by
      intro e
      subst e
      have h2 : w.heap[g']? = Option.some (Obj.cells z t) := hr
      rw [h2] at htag
      injection htag with htag
      injection htag with _ h3 _
      exact ht h3
    exact .inr ⟨g', o, ea, Nat.lt_of_lt_of_le hg hs, fun i f hf j v hv => (World.cell?_of_block (hw _ hg hne)).trans (hc i f hf j v hv), cs, fr, (hw _ hg hne).trans htag⟩
theorem Lt.put {w : World} {a : Option Addr} {L : List α} {g : Nat} {t : TypeId} {z : Array Value} (h : Lt T k c w a L) (hr : Row w g t z) (ht : t ≠ T) (cs : Array Value) : Lt T k c (w.setRow g cs) a L :=
  h.but hr ht (by simp) fun k _ hk => setRow_other _ _ _ _ hk
theorem Lt.set {w : World} {a : Option Addr} {L : List α} {g : Nat} {t : TypeId} {z : Array Value} (h : Lt T k c w a L) (hr : Row w g t z) (ht : t ≠ T) (i : Nat) (v : Value) : Lt T k c (w.setCell ⟨g, i, none⟩ v) a L :=
  h.but hr ht (by simp [World.setCell]) fun k _ hk => Below.heap_setCell _ _ _ _ hk
theorem Lt.grown {w w' : World} {u : Value} {base n j : Nat} {e : TypeId} {xs : List Value} {a : Option Addr} {L : List α} (h : Lt T k c w a L) (ho : w.ownsRow base e j u n xs) (he : e ≠ T) (hg : w.grownBy w' u.ownBlock) : Lt T k c w' a L := by
  rcases ho.2 with ⟨hv, _⟩ | ⟨g, cap, cur, hv, _, hr, _⟩
  · subst hv
    exact h.bel (Below.grown (Below.refl _ _) hg (Nat.le_refl _) (fun k hk => by cases hk))
  · subst hv
    exact h.but (g := g) (t := e) (z := cur) hr he hg.size fun k hk hne => hg.block k hk (by intro q; exact hne (Option.some.inj q))
end
/-- a cell of a row: a number and a value -/
structure Cl where
  id : Int
  v : Vl
def clc (x : Cl) : List Value := [.int .i64 x.id, .bool x.v.b, .int .i64 x.v.n, .string x.v.s]
theorem length_clc (x : Cl) : (clc x).length = 4 := rfl
theorem one_clc (x : Cl) : ∀ y ∈ clc x, y.oneCell' = true := by simp [clc, Value.oneCell']
/-- a row lies in memory: a slice of cells -/
def Rw (w : World) (v : Value) (R : List Cl) : Prop := ∃ a c, v = .slice a R.length c ∧ Lt 58 4 clc w a R
theorem Rw.bel {w w' : World} {v : Value} {R : List Cl} (h : Rw w v R) (hb : Below w.heap.size w w') : Rw w' v R := by
  obtain ⟨a, c, e, h1⟩ := h
  exact ⟨a, c, e, h1.bel hb⟩
end Go.Proofs.Ytkonoojmhjinpaa
