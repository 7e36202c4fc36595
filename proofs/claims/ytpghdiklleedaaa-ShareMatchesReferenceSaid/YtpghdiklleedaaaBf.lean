/- Lists of shares that a call appends to, each share with a slice of its own. -/
import Derived.Test.YtpghdiklleedaaaR
set_option linter.all false
namespace Go.Proofs.Ytpghdiklleedaaa
open Go.RowKit Go.Fen Gf
set_option maxHeartbeats 400000

/-- v is a slice that holds the bytes b, outside the block r -/
def SVx (w : World) (r : Option Nat) (v : Value) (b : List (BitVec 8)) : Prop :=
  ∃ a c, v = .slice a b.length c ∧ b.length ≤ c ∧ (b = [] ∨ ∃ g o, a = some ⟨g, o, none⟩ ∧ some g ≠ r ∧ g < w.heap.size ∧ ∀ j, j < b.length → w.cell? ⟨g, o + j, none⟩ = some (.int .u8 (b.getD j 0#8).toNat))
theorem SVx.sv {w : World} {r : Option Nat} {v : Value} {b : List (BitVec 8)} (h : SVx w r v b) : SV w v b := by
  obtain ⟨a, c, e, hc, h⟩ := h
  refine ⟨a, c, e, hc, ?_⟩
  rcases h with h | ⟨g, o, ea, _, _, hcc⟩
  · exact .inl h
  · exact .inr ⟨g, o, ea, hcc⟩
theorem SVx.grown {w w' : World} {r r' : Option Nat} {v : Value} {b : List (BitVec 8)} (h : SVx w r v b) (hg : w.grownBy w' r) (hr : r' = r ∨ ∃ k, r' = some k ∧ w.heap.size ≤ k) : SVx w' r' v b := by
  obtain ⟨a, c, e, hc, h⟩ := h
  refine ⟨a, c, e, hc, ?_⟩
  rcases h with h | ⟨g, o, ea, hne, hlt, hcc⟩
  · exact .inl h
  · refine .inr ⟨g, o, ea, ?_, Nat.lt_of_lt_of_le hlt hg.size, fun j hj => (World.grownBy.cell_far hg ⟨g, o + j, none⟩ hlt hne).trans (hcc j hj)⟩
    rcases hr with rfl | ⟨k, rfl, hk⟩
    · exact hne
    · intro e2; have := Option.some.inj e2; omega
theorem SVx.below {w w' : World} {r : Option Nat} {v : Value} {b : List (BitVec 8)} (h : SVx w r v b) (hb : Below w.heap.size w w') : SVx w' r v b := by
  obtain ⟨a, c, e, hc, h⟩ := h
  refine ⟨a, c, e, hc, ?_⟩
  rcases h with h | ⟨g, o, ea, hne, hlt, hcc⟩
  · exact .inl h
  · exact .inr ⟨g, o, ea, hne, Nat.lt_of_lt_of_le hlt hb.size, fun j hj => (hb.cell (p := ⟨g, o + j, none⟩) hlt).trans (hcc j hj)⟩
theorem SVx.of_sv {w : World} {r : Option Nat} {v : Value} {b : List (BitVec 8)} {w0 : World} {B : Nat} (h : SV w0 v b) (hb : Below w0.heap.size w0 w) (hr : ∀ k, r = some k → w0.heap.size ≤ k) : SVx w r v b := by
  obtain ⟨a, c, e, hc, h⟩ := h
  refine ⟨a, c, e, hc, ?_⟩
  rcases h with h | ⟨g, o, ea, hcc⟩
  · exact .inl h
  · by_cases h0 : b.length = 0
    · exact .inl (List.eq_nil_of_length_eq_zero h0)
    · have hlt : g < w0.heap.size := block_lt_of_cell (a := ⟨g, o + 0, none⟩) (hcc 0 (by omega))
      refine .inr ⟨g, o, ea, fun e2 => ?_, Nat.lt_of_lt_of_le hlt hb.size, fun j hj => (hb.cell (p := ⟨g, o + j, none⟩) hlt).trans (hcc j hj)⟩
      have := hr g e2.symm
      omega
/-- what a call appended to -/
theorem BufB.svx {B : Nat} {v : Value} {l : List (BitVec 8)} {W0 w : World} (h : BufB B v l W0 w) {r : Option Nat} (hr : ∀ k, r = some k → k < B) : SVx w r v l := by
  have ho := h.1
  rcases ho.2 with ⟨hv, h0⟩ | ⟨g, cap, cur, hv, hbg, hg, hnc, _⟩
  · exact ⟨none, 0, by rw [hv, h0], by omega, .inl (List.eq_nil_of_length_eq_zero h0)⟩
  · refine ⟨_, cap, hv, hnc, .inr ⟨g, 0, rfl, fun e => ?_, (Array.getElem?_eq_some_iff.1 hg).1, fun j hj => ?_⟩⟩
    · have := hr g e.symm; omega
    · rw [hv] at ho
      rw [Nat.zero_add]
      exact (ho.cellAt _ (by omega)).trans (get_bvals l j hj)
theorem svx_row {w : World} {g : Nat} {t : TypeId} {r : Option Nat} {l : List (BitVec 8)} (h : Row w g t (bcells l)) (hr : some g ≠ r) : SVx w r (.slice (some ⟨g, 0, none⟩) l.length l.length) l :=
  ⟨_, _, rfl, Nat.le_refl _, .inr ⟨g, 0, rfl, hr, h.lt, fun j hj => by rw [Nat.zero_add]; exact (h.cell j).trans (get_bcells l j hj)⟩⟩

structure BufF (B : Nat) (v : Value) (M : List Shr) (W0 w : World) : Prop where
  buf : BufS B v M W0 w
  own : ∀ i, i < M.length → SVx w v.ownBlock (M.getD i zs).v (M.getD i zs).b
theorem BufF.nil {B : Nat} {v : Value} {W0 w : World} (h : BufS B v [] W0 w) : BufF B v [] W0 w := ⟨h, fun i hi => by simp at hi⟩
theorem BufF.call {B : Nat} {v : Value} {M : List Shr} {W0 w w' : World} (h : BufF B v M W0 w) (hb : Below w.heap.size w w') : BufF B v M W0 w' := ⟨h.buf.call hb, fun i hi => (h.own i hi).below hb⟩
theorem BufF.alloc {B : Nat} {v : Value} {M : List Shr} {W0 w : World} (h : BufF B v M W0 w) (o : Obj) : BufF B v M W0 (w.alloc o) := h.call ((Below.refl _ _).alloc (Nat.le_refl _) o)
theorem BufF.drewN {B : Nat} {v : Value} {M : List Shr} {W0 w : World} (h : BufF B v M W0 w) (q : Nat) : BufF B v M W0 (w.drewN q) := h.call (below_drewN (Below.refl _ _) q)
theorem BufF.drew {B : Nat} {v : Value} {M : List Shr} {W0 w : World} (h : BufF B v M W0 w) : BufF B v M W0 w.drew := h.drewN 1
theorem BufF.own_lt {B : Nat} {v : Value} {M : List Shr} {W0 w : World} (h : BufF B v M W0 w) : ∀ k, v.ownBlock = some k → k < w.heap.size := fun k hk => (h.buf.1.lt k hk).2
theorem BufF.own_ge {B : Nat} {v : Value} {M : List Shr} {W0 w : World} (h : BufF B v M W0 w) : ∀ k, v.ownBlock = some k → B ≤ k := fun k hk => (h.buf.1.lt k hk).1
theorem BufF.shs {B : Nat} {v : Value} {M : List Shr} {W0 w : World} (h : BufF B v M W0 w) : ∃ a c, v = .slice a M.length c ∧ M.length ≤ c ∧ Shs w a M := Shs.of_buf h.buf fun i hi => (h.own i hi).sv
theorem BufF.pushed {B : Nat} {v v' : Value} {M : List Shr} {t : Shr} {W0 w0 w' : World} {o : Obj} (h : BufF B v M W0 w0) (ht : SVx w0 v.ownBlock t.v t.b) (hb' : BufS B v' (M ++ [t]) W0 w') (hg : (w0.alloc o).grownBy w' v.ownBlock)
    (hown : v'.ownBlock = v.ownBlock ∨ v'.ownBlock = some (w0.alloc o).heap.size) : BufF B v' (M ++ [t]) W0 w' := by
  have hr : v'.ownBlock = v.ownBlock ∨ ∃ k, v'.ownBlock = some k ∧ (w0.alloc o).heap.size ≤ k := by
    rcases hown with e | e
    · exact .inl e
    · exact .inr ⟨_, e, Nat.le_refl _⟩
  have hal : Below w0.heap.size w0 (w0.alloc o) := (Below.refl _ _).alloc (Nat.le_refl _) o
  refine ⟨hb', fun i hi => ?_⟩
  by_cases hk : i < M.length
  · have e : (M ++ [t]).getD i zs = M.getD i zs := by simp [List.getD, List.getElem?_append, hk]
    rw [e]
    exact ((h.own i hk).below hal).grown hg hr
  · have e : (M ++ [t]).getD i zs = t := by
      have : i = M.length := by simp at hi; omega
      subst this
      simp [List.getD, List.getElem?_append]
    rw [e]
    exact (ht.below hal).grown hg hr
theorem step_pushF {ops : Array Oper} {o : Oper} {a : Act} {K : Act → World → Prop} {Q : Exit → Act → World → Prop} {E : Prop} (hgd : o.guard = none) (s x : Operand)
    (ho : o.op = .call { callee := .builtin .append, args := #[s, x], argTypes := #[31, 31] })
    (B : Nat) (v : Value) (M : List Shr) (hs : a.eval s = v) (W0 w0 w1 : World) (t : Shr) (ht : SVx w0 v.ownBlock t.v t.b) (hw1 : w1 = w0.alloc (.cells #[.int .u8 t.x.toNat, t.v] 33)) (hb : BufF B v M W0 w0)
    (g0 : Nat) (hg0 : g0 = w0.heap.size) (hx : a.eval x = .slice (some ⟨g0, 0, none⟩) 1 1) (h63 : M.length ≤ 1000000)
    (h : ∀ v' w', BufF B v' (M ++ [t]) W0 w' → w1.grownBy w' v.ownBlock → K (a.put o.dst v') w') : if Region.wanted o (yielded ops a.tmps) = true then Oper.wp Try.prog o a w1 K Q else E :=
  step_push2 hgd s x ho B v M hs W0 w0 w1 t ht.sv.one hw1 hb.buf g0 hg0 hx h63 fun v' w' hb' hg hown => h v' w' (by subst hw1; exact hb.pushed ht hb' hg hown) hg
theorem wpList_pushF {ops : Array Oper} {rest : List Oper} {o : Oper} {a : Act} {Q : Exit → Act → World → Prop} (hgd : o.guard = none) (s x : Operand)
    (ho : o.op = .call { callee := .builtin .append, args := #[s, x], argTypes := #[31, 31] })
    (B : Nat) (v : Value) (M : List Shr) (hs : a.eval s = v) (W0 w0 w1 : World) (t : Shr) (ht : SVx w0 v.ownBlock t.v t.b) (hw1 : w1 = w0.alloc (.cells #[.int .u8 t.x.toNat, t.v] 33)) (hb : BufF B v M W0 w0)
    (g0 : Nat) (hg0 : g0 = w0.heap.size) (hx : a.eval x = .slice (some ⟨g0, 0, none⟩) 1 1) (h63 : M.length ≤ 1000000)
    (h : ∀ v' w', BufF B v' (M ++ [t]) W0 w' → w1.grownBy w' v.ownBlock → wpList Try.prog ops Q rest (a.put o.dst v') w') : wpList Try.prog ops Q (o :: rest) a w1 :=
  wpList_push2' hgd s x ho B v M hs W0 w0 w1 t ht.sv.one hw1 hb.buf g0 hg0 hx h63 fun v' w' hb' hg hown => h v' w' (by subst hw1; exact hb.pushed ht hb' hg hown) hg
end Go.Proofs.Ytpghdiklleedaaa
