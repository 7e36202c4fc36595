/- Rows that are made: lists of fields and lists of rows that a call appends to. -/
import Derived.Test.YtnpkbjekodjcjaaDoorQ
import Derived.Deep.AppendLies
set_option linter.all false
namespace Go.Proofs.YtnpkbjekodjcjaaDoor
open Go.RowKit Go.Fen Hil
set_option linter.unusedVariables false
set_option maxHeartbeats 4000000

def ccells (fs : List (Int × Int)) : List Value := fs.flatMap fcells
theorem length_ccells (fs : List (Int × Int)) : (ccells fs).length = fs.length * 4 := by
  induction fs with
  | nil => rfl
  | cons f fs ih => simp only [ccells, List.flatMap_cons, List.length_append, List.length_cons] at ih ⊢; rw [ih]; simp [fcells]; omega
theorem ccells_snoc (fs : List (Int × Int)) (f : Int × Int) : ccells (fs ++ [f]) = ccells fs ++ fcells f := by simp [ccells]
theorem get_ccells : ∀ (fs : List (Int × Int)) (i j : Nat), i < fs.length → j < 4 → (ccells fs)[i * 4 + j]? = (fcells (fs.getD i (0, 0)))[j]?
  | [], i, j, h, _ => by simp at h
  | f :: fs, 0, j, h, hj => by
    simp only [ccells, List.flatMap_cons, Nat.zero_mul, Nat.zero_add]
    rw [List.getElem?_append_left (by simp [fcells]; omega)]
    rfl
  | f :: fs, i + 1, j, h, hj => by
    simp only [ccells, List.flatMap_cons]
    rw [List.getElem?_append_right (by simp [fcells]; omega)]
    have := get_ccells fs i j (by simpa using h) hj
    simp only [ccells] at this
    rw [show (i + 1) * 4 + j - (fcells f).length = i * 4 + j by simp [fcells]; omega, this]
    rfl

theorem Tryd.info80 : (Tryd.prog.info? 80).map (fun i => (i.zero, i.size, i.bytes)) = some (some (.agg #[.int .i64 0, .bool false, .int .i64 0, .string ⟨#[]⟩]), 4, 40) := by kernel_rfl
theorem Tryd.info76 : (Tryd.prog.info? 76).map (fun i => (i.zero, i.size, i.bytes)) = some (some (.agg #[.slice none 0 0]), 1, 24) := by kernel_rfl

/-- in w the variable at gv holds a list of fields of the call's own; nothing else has turned since V0 -/
def AccF (V0 : World) (gv : Nat) (v : Value) (fs : List (Int × Int)) (w : World) : Prop :=
  w.ownsRow V0.heap.size 80 4 v fs.length (ccells fs) ∧ Row w gv 76 #[v] ∧ V0.grownBy w (some gv)

/-- 'r.Cells = append(r.Cells, f)', the append -/
theorem wp_pushC {o : Oper} {a : Act} {K : Act → World → Prop} {Q : Exit → Act → World → Prop} (s x : Operand)
    (ho : o.op = .call { callee := .builtin .append, args := #[s, x], argTypes := #[74, 74] })
    (B : Nat) (v : Value) (fs : List (Int × Int)) (hs : a.eval s = v) (w0 w1 : World) (f : Int × Int) (hw1 : w1 = w0.alloc (.cells (fcells f).toArray 80)) (hb : w0.ownsRow B 80 4 v fs.length (ccells fs)) (hB : B ≤ w0.heap.size)
    (g0 : Nat) (hg0 : g0 = w0.heap.size) (hx : a.eval x = .slice (some ⟨g0, 0, none⟩) 1 1) (h63 : fs.length ≤ 1000000)
    (h : ∀ v' w', w'.ownsRow B 80 4 v' (fs ++ [f]).length (ccells (fs ++ [f])) → w1.grownBy w' v.ownBlock → K (a.put o.dst v') w') : Oper.wp Tryd.prog o a w1 K Q := by
  obtain ⟨i, hi, hzz⟩ := Option.map_eq_some_iff.1 Tryd.info80
  simp only [Prod.mk.injEq] at hzz
  subst hg0
  subst hw1
  have hb' := owns_grown hb (World.grownBy_alloc w0 (.cells (fcells f).toArray 80) none) (.inr rfl)
  refine wp_append_lies _ s x 74 ho B 80 i _ 4 40 Tryd.underlying74 hi hzz.1 hzz.2.1 hzz.2.2 rfl (by decide) v fs.length (ccells fs) hs hb' ⟨w0.heap.size, 0, none⟩ 1 1 (fcells f) hx rfl ?_ ?_ (by decide) (by unfold maxLen; omega) (by omega) (by simp; omega) _ rfl ?_
  · intro j y hj
    have hj4 : j < 4 := by
      have := (List.getElem?_eq_some_iff.1 hj).1
      simpa [fcells] using this
    have r := (Row.new w0 80 (fcells f).toArray).cell j
    rw [Addr.add_mid, Nat.zero_add, r]
    simpa using hj
  · intro y hy
    simp [fcells] at hy
    rcases hy with rfl | rfl | rfl | rfl <;> rfl
  · intro g cap w' ho' hg hat _
    refine h _ w' ?_ hg
    rw [ccells_snoc, List.length_append]
    exact ho'

/-- v is a slice that holds the fields fs, outside the block r -/
def RowX (w : World) (r : Option Nat) (v : Value) (fs : List (Int × Int)) : Prop :=
  ∃ a c, v = .slice a fs.length c ∧ fs.length ≤ 1000000 ∧ ((a = none ∧ fs.length = 0) ∨ ∃ g o, a = some ⟨g, o, none⟩ ∧ some g ≠ r ∧ g < w.heap.size ∧ ∀ i, i < fs.length → w.rangeAt g (o + i * 4) (fcells (fs.getD i (0, 0))))
theorem RowX.rowM {w : World} {r : Option Nat} {v : Value} {fs : List (Int × Int)} (h : RowX w r v fs) : RowM w v fs := by
  obtain ⟨a, c, e, hl, h⟩ := h
  refine ⟨a, c, e, hl, ?_⟩
  rcases h with h | ⟨g, o, ea, _, hg, hc⟩
  · exact .inl h
  · exact .inr ⟨g, o, ea, hg, hc⟩
theorem RowX.one {w : World} {r : Option Nat} {v : Value} {fs : List (Int × Int)} (h : RowX w r v fs) : v.oneCell' = true := by
  obtain ⟨a, c, e, _⟩ := h
  rw [e]; rfl
theorem RowX.grown {w w' : World} {r r' : Option Nat} {v : Value} {fs : List (Int × Int)} (h : RowX w r v fs) (hg : w.grownBy w' r) (hr : r' = r ∨ ∃ k, r' = some k ∧ w.heap.size ≤ k) : RowX w' r' v fs := by
  obtain ⟨a, c, e, hl, h⟩ := h
  refine ⟨a, c, e, hl, ?_⟩
  rcases h with h | ⟨g, o, ea, hne, hlt, hcc⟩
  · exact .inl h
  · refine .inr ⟨g, o, ea, ?_, Nat.lt_of_lt_of_le hlt hg.size, fun i hi j u hu => (World.grownBy.cell_far hg ⟨g, o + i * 4 + j, none⟩ hlt hne).trans (hcc i hi j u hu)⟩
    rcases hr with rfl | ⟨k, rfl, hk⟩
    · exact hne
    · intro e2; have := Option.some.inj e2; omega
theorem RowX.below {w w' : World} {r : Option Nat} {v : Value} {fs : List (Int × Int)} (h : RowX w r v fs) (hb : Below w.heap.size w w') : RowX w' r v fs := by
  obtain ⟨a, c, e, hl, h⟩ := h
  refine ⟨a, c, e, hl, ?_⟩
  rcases h with h | ⟨g, o, ea, hne, hlt, hcc⟩
  · exact .inl h
  · exact .inr ⟨g, o, ea, hne, Nat.lt_of_lt_of_le hlt hb.size, fun i hi => range_below (hcc i hi) hb hlt⟩
/-- what was appended to -/
theorem rowx_of_own {w : World} {B : Nat} {v : Value} {fs : List (Int × Int)} (h : w.ownsRow B 80 4 v fs.length (ccells fs)) (hl : fs.length ≤ 1000000) {r : Option Nat} (hr : ∀ k, r = some k → k < B) : RowX w r v fs := by
  rcases h.2 with ⟨hv, h0⟩ | ⟨g, cap, cur, hv, hbg, hg, hnc, _⟩
  · exact ⟨none, 0, by rw [hv, h0], hl, .inl ⟨rfl, h0⟩⟩
  · refine ⟨_, cap, hv, hl, .inr ⟨g, 0, rfl, fun e => ?_, (Array.getElem?_eq_some_iff.1 hg).1, fun i hi j u hu => ?_⟩⟩
    · have := hr g e.symm; omega
    · have hj : j < 4 := by
        have := (List.getElem?_eq_some_iff.1 hu).1
        simpa [fcells] using this
      subst hv
      rw [Nat.zero_add, h.cellAt _ (by omega), get_ccells fs i j hi hj]
      exact hu

/-- a list of rows that a call appends to, each row with a list of its own -/
structure BufR (B : Nat) (v : Value) (vs : List Value) (F : List (List (Int × Int))) (W0 w : World) : Prop where
  buf : Buf B 76 v vs.length vs W0 w
  len : vs.length = F.length
  own : ∀ i, i < F.length → RowX w v.ownBlock (vs.getD i undef) (F.getD i [])
theorem BufR.call {B : Nat} {v : Value} {vs : List Value} {F : List (List (Int × Int))} {W0 w w' : World} (h : BufR B v vs F W0 w) (hb : Below w.heap.size w w') : BufR B v vs F W0 w' := ⟨h.buf.call hb, h.len, fun i hi => (h.own i hi).below hb⟩
theorem BufR.rows {B : Nat} {v : Value} {vs : List Value} {F : List (List (Int × Int))} {W0 w : World} (h : BufR B v vs F W0 w) : ∃ a c, v = .slice a F.length c ∧ RowsM w a F := by
  rcases h.buf.1.2 with ⟨hv, h0⟩ | ⟨g, cap, cur, hv, hbg, hg, hnc, _⟩
  · exact ⟨none, 0, by rw [hv, ← h.len, h0], .inl ⟨rfl, by rw [← h.len]; exact h0⟩⟩
  · refine ⟨_, cap, by rw [hv, h.len], .inr ⟨g, 0, rfl, (Array.getElem?_eq_some_iff.1 hg).1, fun i hi => ⟨vs.getD i undef, ?_, (h.own i hi).rowM⟩⟩⟩
    have ho := h.buf.1
    rw [hv] at ho
    rw [Nat.zero_add, ho.cellAt i (by rw [Nat.mul_one, h.len]; exact hi)]
    simp [List.getD, h.len, hi]

theorem wpList_pushR {ops : Array Oper} {rest : List Oper} {o : Oper} {a : Act} {Q : Exit → Act → World → Prop} (hgd : o.guard = none) (s x : Operand)
    (ho : o.op = .call { callee := .builtin .append, args := #[s, x], argTypes := #[43, 43] })
    (B : Nat) (v : Value) (vs : List Value) (F : List (List (Int × Int))) (hs : a.eval s = v) (W0 w0 w1 : World) (u : Value) (fs : List (Int × Int)) (hu : RowX w0 v.ownBlock u fs) (hw1 : w1 = w0.alloc (.cells #[u] 76)) (hb : BufR B v vs F W0 w0)
    (g0 : Nat) (hg0 : g0 = w0.heap.size) (hx : a.eval x = .slice (some ⟨g0, 0, none⟩) 1 1) (h63 : F.length ≤ 1000000)
    (h : ∀ v' w', BufR B v' (vs ++ [u]) (F ++ [fs]) W0 w' → wpList Tryd.prog ops Q rest (a.put o.dst v') w') : wpList Tryd.prog ops Q (o :: rest) a w1 := by
  obtain ⟨i, hi, hzz⟩ := Option.map_eq_some_iff.1 Tryd.info76
  simp only [Prod.mk.injEq] at hzz
  subst hg0
  subst hw1
  have hal : Below w0.heap.size w0 (w0.alloc (.cells #[u] 76)) := (Below.refl _ _).alloc (Nat.le_refl _) _
  have hb' := hb.buf.alloc (.cells #[u] 76)
  have hlen := hb.len
  refine wpList_append_lies _ hgd s x 43 ho B 76 i _ 1 24 Tryd.underlying43 hi hzz.1 hzz.2.1 hzz.2.2 rfl (by decide) v vs.length vs hs hb'.1 ⟨w0.heap.size, 0, none⟩ 1 1 [u] hx rfl ?_ ?_ (by decide) (by unfold maxLen; omega) (by omega) hb'.2.2 _ rfl ?_
  · intro j y hj
    match j, hj with
    | 0, hj => simp at hj; subst hj; simp [Addr.add]
    | (j + 1), hj => simp at hj
  · intro y hy; simp at hy; subst hy; exact hu.one
  · intro g cap w' ho' hg hat _
    refine h _ w' ⟨?_, by simp [hlen], fun j hj => ?_⟩
    · have := hb'.grown (xs' := vs ++ [u]) (n' := (vs ++ [u]).length) (v' := .slice (some ⟨g, 0, none⟩) (vs.length + 1) cap) (by simpa using ho') hg
      exact this
    · have hr : (Value.slice (some ⟨g, 0, none⟩) (vs.length + 1) cap).ownBlock = v.ownBlock ∨ ∃ k, (Value.slice (some ⟨g, 0, none⟩) (vs.length + 1) cap).ownBlock = some k ∧ (w0.alloc (.cells #[u] 76)).heap.size ≤ k := by
        rcases hat with e | e
        · exact .inl e.symm
        · exact .inr ⟨g, rfl, by rw [e]; exact Nat.le_refl _⟩
      by_cases hk : j < F.length
      · have e1 : (vs ++ [u]).getD j undef = vs.getD j undef := by simp [List.getD, List.getElem?_append, hlen, hk]
        have e2 : (F ++ [fs]).getD j [] = F.getD j [] := by simp [List.getD, List.getElem?_append, hk]
        rw [e1, e2]
        exact ((hb.own j hk).below hal).grown hg hr
      · have ej : j = F.length := by simp at hj; omega
        have e1 : (vs ++ [u]).getD j undef = u := by subst ej; simp [List.getD, List.getElem?_append, ← hlen]
        have e2 : (F ++ [fs]).getD j [] = fs := by subst ej; simp [List.getD, List.getElem?_append]
        rw [e1, e2]
        exact (hu.below hal).grown hg hr
end Go.Proofs.YtnpkbjekodjcjaaDoor
