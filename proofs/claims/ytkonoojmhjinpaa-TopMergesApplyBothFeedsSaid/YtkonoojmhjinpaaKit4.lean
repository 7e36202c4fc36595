/- A slice that a call owns and appends to. -/
import Derived.Test.YtkonoojmhjinpaaKit3
import Derived.Below
import Derived.Laws.OwnMore
import Derived.Deep.MidRow
set_option linter.all false
namespace Go.Fen
open Go Go.RowKit
variable {P : Program}

theorem owns_below {w w' : World} {base : Nat} {e : TypeId} {size : Nat} {v : Value} {n : Nat} {xs : List Value} (h : w.ownsRow base e size v n xs) {B : Nat} (hb : Below B w w') (hB : w.heap.size ≤ B) : w'.ownsRow base e size v n xs := by
  refine ⟨h.1, ?_⟩
  rcases h.2 with h2 | ⟨g, cap, cur, hv, hbg, hg, r⟩
  · exact .inl h2
  · have hlt : g < w.heap.size := (Array.getElem?_eq_some_iff.1 hg).1
    exact .inr ⟨g, cap, cur, hv, hbg, (hb.block g (by omega)).trans hg, r⟩

theorem owns_grown {w w' : World} {base : Nat} {e : TypeId} {size : Nat} {v : Value} {n : Nat} {xs : List Value} (h : w.ownsRow base e size v n xs) {r : Option Nat} (hb : w.grownBy w' r) (hr : v.ownBlock ≠ r ∨ r = none) : w'.ownsRow base e size v n xs := by
  refine ⟨h.1, ?_⟩
  rcases h.2 with h2 | ⟨g, cap, cur, hv, hbg, hg, r'⟩
  · exact .inl h2
  · have hlt : g < w.heap.size := (Array.getElem?_eq_some_iff.1 hg).1
    refine .inr ⟨g, cap, cur, hv, hbg, (hb.block g hlt ?_).trans hg, r'⟩
    rcases hr with hr | hr
    · rw [hv] at hr; exact hr
    · rw [hr]; simp

/-- In w the slice v owns a row of n one-cell values xs, in a block from B on; below B nothing has turned since W0. -/
def Buf (B : Nat) (e : TypeId) (v : Value) (n : Nat) (xs : List Value) (W0 w : World) : Prop :=
  w.ownsRow B e 1 v n xs ∧ Below B W0 w ∧ B ≤ w.heap.size

theorem Buf.nil {B : Nat} {e : TypeId} {W0 w : World} (h : Below B W0 w) (hB : B ≤ w.heap.size) : Buf B e (.slice none 0 0) 0 [] W0 w :=
  ⟨World.ownsRow_nil _ _ _ _, h, hB⟩
theorem Buf.lit {B : Nat} {e : TypeId} {W0 w : World} (h : Below B W0 w) (hB : B ≤ w.heap.size) (cs : Array Value) (n : Nat) (hn : cs.size = n) (hm : n ≤ maxLen) (g : Nat) (hg : g = w.heap.size) :
    Buf B e (.slice (some ⟨g, 0, none⟩) n n) n cs.toList W0 (w.alloc (.cells cs e)) := by
  subst hg
  exact ⟨World.ownsRow_lit w cs n hB hm (by omega), h.alloc hB _, by simp; omega⟩
theorem Buf.grown {B : Nat} {e : TypeId} {v v' : Value} {n n' : Nat} {xs xs' : List Value} {W0 w w' : World} (h : Buf B e v n xs W0 w) (ho : w'.ownsRow B e 1 v' n' xs') (hg : w.grownBy w' v.ownBlock) : Buf B e v' n' xs' W0 w' :=
  ⟨ho, h.2.1.grown hg h.2.2 (fun k hk => (h.1.lt k hk).1), Nat.le_trans h.2.2 hg.size⟩
theorem Buf.alloc {B : Nat} {e : TypeId} {v : Value} {n : Nat} {xs : List Value} {W0 w : World} (h : Buf B e v n xs W0 w) (o : Obj) : Buf B e v n xs W0 (w.alloc o) :=
  ⟨owns_grown h.1 (World.grownBy_alloc w o none) (.inr rfl), h.2.1.alloc h.2.2 o, Nat.le_trans h.2.2 (by simp)⟩
theorem Buf.drewN {B : Nat} {e : TypeId} {v : Value} {n : Nat} {xs : List Value} {W0 w : World} (h : Buf B e v n xs W0 w) (q : Nat) : Buf B e v n xs W0 (w.drewN q) :=
  ⟨h.1, below_drewN h.2.1 q, h.2.2⟩
theorem Buf.drew {B : Nat} {e : TypeId} {v : Value} {n : Nat} {xs : List Value} {W0 w : World} (h : Buf B e v n xs W0 w) : Buf B e v n xs W0 w.drew := h.drewN 1
theorem Buf.call {B : Nat} {e : TypeId} {v : Value} {n : Nat} {xs : List Value} {W0 w w' : World} (h : Buf B e v n xs W0 w) (hb : Below w.heap.size w w') : Buf B e v n xs W0 w' :=
  ⟨owns_below h.1 hb (Nat.le_refl _), h.2.1.trans (hb.mono h.2.2), Nat.le_trans h.2.2 hb.size⟩
theorem Buf.form {B : Nat} {e : TypeId} {v : Value} {n : Nat} {xs : List Value} {W0 w : World} (h : Buf B e v n xs W0 w) (hn : 0 < n) : ∃ g cap, v = .slice (some ⟨g, 0, none⟩) n cap ∧ B ≤ g ∧ g < w.heap.size ∧ n ≤ cap := by
  rcases h.1.2 with ⟨_, h0⟩ | ⟨g, cap, cur, hv, hbg, hg, hnc, _⟩
  · omega
  · exact ⟨g, cap, hv, hbg, (Array.getElem?_eq_some_iff.1 hg).1, hnc⟩

/-- 'buf = append(buf, x)', x of one cell: the new value lies in the block that the statement has just laid. -/
theorem wpList_push {ops : Array Oper} {rest : List Oper} {o : Oper} {a : Act} {Q : Exit → Act → World → Prop} (hgd : o.guard = none) (s x : Operand) (t : TypeId)
    (ho : o.op = .call { callee := .builtin .append, args := #[s, x], argTypes := #[t, t] })
    (B : Nat) (e : TypeId) (z : Value) (bytes : Nat) (ht : P.underlying t = some (.slice e)) (hi : (P.info? e).map (fun i => (i.zero, i.size, i.bytes)) = some (some z, 1, bytes)) (hzs : z.cells.size = 1)
    (v : Value) (n : Nat) (xs : List Value) (hs : a.eval s = v) (W0 w0 w1 : World) (u : Value) (hu : u.oneCell' = true) (hw1 : w1 = w0.alloc (.cells #[u] e)) (hb : Buf B e v n xs W0 w0)
    (hx : a.eval x = .slice (some ⟨w0.heap.size, 0, none⟩) 1 1) (h63 : n + 1 ≤ maxLen) (hlen : (n + 1) * bytes ≤ 140737488355328)
    (h : ∀ v' w', Buf B e v' (n + 1) (xs ++ [u]) W0 w' → w1.grownBy w' v.ownBlock → wpList P ops Q rest (a.put o.dst v') w') : wpList P ops Q (o :: rest) a w1 := by
  obtain ⟨i, hi, hzz⟩ := Option.map_eq_some_iff.1 hi
  simp only [Prod.mk.injEq] at hzz
  subst hw1
  have hb' := hb.alloc (.cells #[u] e)
  refine wpList_append_own _ hgd s x t ho B e i z 1 bytes ht hi hzz.1 hzz.2.1 hzz.2.2 hzs (by decide) v n xs hs hb'.1 ⟨w0.heap.size, 0, none⟩ 1 1 [u] hx rfl ?_ ?_ h63 hlen hb'.2.2 ?_
  · intro j y hj
    match j, hj with
    | 0, hj => simp at hj; subst hj; simp [Addr.add]
    | (j + 1), hj => simp at hj
  · intro y hy; simp at hy; subst hy; exact hu
  · intro v' w' ho' hg _
    exact h v' w' (hb'.grown ho' hg) hg

/-- the values of a list of words -/
def wvals (l : List (BitVec 32)) : List Value := l.map fun b => Value.int .u32 b.toNat
theorem get_wvals (l : List (BitVec 32)) (i : Nat) (h : i < l.length) : (wvals l)[i]? = some (.int .u32 (l.getD i 0#32).toNat) := by simp [wvals, h]
theorem set_wvals (l : List (BitVec 32)) (i : Nat) (b : BitVec 32) : (wvals l).set i (.int .u32 b.toNat) = wvals (l.set i b) := by simp [wvals, List.map_set]
theorem push_wvals (l : List (BitVec 32)) (b : BitVec 32) : wvals l ++ [.int .u32 (b.toNat : Int)] = wvals (l ++ [b]) := by simp [wvals]
theorem wcells_toList (l : List (BitVec 32)) : (wcells l).toList = wvals l := by simp [wcells, wvals]
end Go.Fen
