/- Lists of elements of several cells in memory; one element appended. -/
import Derived.Test.YtkonoojmhjinpaaKit5
import Derived.Test.YtkonoojmhjinpaaKit6
import Derived.Test.YtkonoojmhjinpaaKit7
import Derived.Test.YtkonoojmhjinpaaRows
import Derived.Deep.QuietTactic
import Derived.BigQuiet
import Derived.Outline
import Derived.Deep.RegionWith
import Derived.Deep.AppendLies
import Derived.Deep.RegionLaw
import Derived.Deep.Cut
import Derived.Deep.CutRange
import Derived.OwnWalk
set_option linter.all false
namespace Go.Proofs.Ytkonoojmhjinpaa
open Go.RowKit Go.Fen
set_option linter.unusedVariables false
set_option maxHeartbeats 4000000

theorem addr_add (b off i : Nat) : (⟨b, off, none⟩ : Addr).add i = ⟨b, off + i, none⟩ := by
  unfold Addr.add; split
  · subst_vars; rfl
  · rfl
theorem bel_tr {w W W' : World} (h : Below w.heap.size w W) (h2 : Below W.heap.size W W') : Below w.heap.size w W' := h.trans (h2.mono h.size)
theorem bel_alloc {B : Nat} {w W : World} (h : Below B w W) (hB : B ≤ W.heap.size) (o : Obj) : Below B w (W.alloc o) := h.alloc hB o
theorem range_below {w w' : World} {B g o : Nat} {l : List Value} (h : w.rangeAt g o l) (hb : Below B w w') (hg : g < B) : w'.rangeAt g o l := fun j v hv => (hb.cell (p := ⟨g, o + j, none⟩) hg).trans (h j v hv)
theorem owns_mono {w : World} {base base' : Nat} {e : TypeId} {size : Nat} {v : Value} {n : Nat} {xs : List Value} (h : w.ownsRow base e size v n xs) (hb : base' ≤ base) : w.ownsRow base' e size v n xs := by
  refine ⟨h.1, ?_⟩
  rcases h.2 with h2 | ⟨g, cap, cur, hv, hbg, r⟩
  · exact .inl h2
  · exact .inr ⟨g, cap, cur, hv, Nat.le_trans hb hbg, r⟩

section
variable {α : Type}
/-- a list lies in memory, each element in k cells; of an empty list nothing is asked -/
def Ls (k : Nat) (c : α → List Value) (w : World) (a : Option Addr) (L : List α) : Prop :=
  L.length = 0 ∨ ∃ g o, a = some ⟨g, o, none⟩ ∧ g < w.heap.size ∧ ∀ i x, L[i]? = some x → w.rangeAt g (o + i * k) (c x)
theorem Ls.below {k : Nat} {c : α → List Value} {w w' : World} {B : Nat} {a : Option Addr} {L : List α} (h : Ls k c w a L) (hb : Below B w w') (hB : w.heap.size ≤ B) : Ls k c w' a L := by
  rcases h with h | ⟨g, o, ea, hg, hc⟩
  · exact .inl h
  · exact .inr ⟨g, o, ea, Nat.lt_of_lt_of_le hg hb.size, fun i x hx => range_below (hc i x hx) hb (Nat.lt_of_lt_of_le hg hB)⟩
theorem Ls.bel {k : Nat} {c : α → List Value} {w w' : World} {a : Option Addr} {L : List α} (h : Ls k c w a L) (hb : Below w.heap.size w w') : Ls k c w' a L := h.below hb (Nat.le_refl _)
theorem Ls.some {k : Nat} {c : α → List Value} {w : World} {a : Option Addr} {L : List α} (h : Ls k c w a L) (hn : 0 < L.length) : ∃ g o, a = some ⟨g, o, none⟩ ∧ g < w.heap.size ∧ ∀ i x, L[i]? = some x → w.rangeAt g (o + i * k) (c x) := by
  rcases h with h | h
  · omega
  · exact h
theorem length_fl {k : Nat} {c : α → List Value} (hc : ∀ x, (c x).length = k) : ∀ L : List α, (L.flatMap c).length = L.length * k
  | [] => by simp
  | x :: L => by rw [List.flatMap_cons, List.length_append, hc, length_fl hc L, List.length_cons, Nat.add_mul]; omega
theorem get_fl {k : Nat} {c : α → List Value} (hc : ∀ x, (c x).length = k) : ∀ (L : List α) (i j : Nat) (x : α), L[i]? = some x → j < k → (L.flatMap c)[i * k + j]? = (c x)[j]?
  | [], i, j, x, h, _ => by simp at h
  | y :: L, 0, j, x, h, hj => by
    simp only [List.getElem?_cons_zero, Option.some.injEq] at h
    subst h
    rw [List.flatMap_cons, Nat.zero_mul, Nat.zero_add, List.getElem?_append_left (by rw [hc]; exact hj)]
  | y :: L, i + 1, j, x, h, hj => by
    rw [List.getElem?_cons_succ] at h
    rw [List.flatMap_cons, List.getElem?_append_right (by rw [hc, Nat.add_mul]; omega), hc, show (i + 1) * k + j - k = i * k + j by rw [Nat.add_mul]; omega]
    exact get_fl hc L i j x h hj
theorem ls_of_own {k : Nat} {c : α → List Value} (hc : ∀ x, (c x).length = k) {w : World} {base n : Nat} {e : TypeId} {v : Value} {L : List α} (h : w.ownsRow base e k v n (L.flatMap c)) (hn : n = L.length) : ∃ a cap, v = .slice a n cap ∧ Ls k c w a L := by
  rcases h.2 with ⟨hv, h0⟩ | ⟨g, cap, cur, hv, hbg, hg, r⟩
  · subst h0; exact ⟨none, 0, hv, .inl hn.symm⟩
  · refine ⟨some ⟨g, 0, none⟩, cap, hv, .inr ⟨g, 0, rfl, (Array.getElem?_eq_some_iff.1 hg).1, fun i x hx j u hu => ?_⟩⟩
    subst hv
    have hj : j < k := by rw [← hc x]; exact (List.getElem?_eq_some_iff.1 hu).1
    have hi : i < L.length := (List.getElem?_eq_some_iff.1 hx).1
    have hik : i * k + j < n * k := by
      have : (i + 1) * k ≤ n * k := Nat.mul_le_mul_right _ (by omega)
      rw [Nat.add_mul] at this; omega
    have := h.cellAt (i * k + j) hik
    rw [get_fl hc L i j x hx hj, hu] at this
    rw [Nat.zero_add]
    exact this
end

/-- 'v = append(v, x)': x lies in the block that the statement has just laid -/
theorem wp_pushK {o : Oper} {a : Act} {K : Act → World → Prop} {Q : Exit → Act → World → Prop} (s x : Operand) (t e : TypeId)
    (ho : o.op = .call { callee := .builtin .append, args := #[s, x], argTypes := #[t, t] }) (z : Value) (k bytes : Nat) (ht : Try.prog.underlying t = some (.slice e)) (hi : (Try.prog.info? e).map (fun i => (i.zero, i.size, i.bytes)) = some (some z, k, bytes)) (hzs : z.cells.size = k) (hk : 0 < k) (hby : bytes ≤ 1000)
    (B : Nat) (v : Value) (n : Nat) (xs : List Value) (hs : a.eval s = v) (w0 w1 : World) (ys : List Value) (hys : ys.length = k) (hone : ∀ y ∈ ys, y.oneCell' = true) (hw1 : w1 = w0.alloc (.cells ys.toArray e)) (hb : w0.ownsRow B e k v n xs) (hB : B ≤ w0.heap.size)
    (g0 : Nat) (hg0 : g0 = w0.heap.size) (hx : a.eval x = .slice (some ⟨g0, 0, none⟩) 1 1) (h63 : n ≤ 1000000)
    (h : ∀ g cap w', w'.ownsRow B e k (.slice (some ⟨g, 0, none⟩) (n + 1) cap) (n + 1) (xs ++ ys) → w1.grownBy w' v.ownBlock → K (a.put o.dst (.slice (some ⟨g, 0, none⟩) (n + 1) cap)) w') : Oper.wp Try.prog o a w1 K Q := by
  obtain ⟨i, hi, hzz⟩ := Option.map_eq_some_iff.1 hi
  simp only [Prod.mk.injEq] at hzz
  subst hg0
  subst hw1
  have hb' := owns_grown hb (World.grownBy_alloc w0 (.cells ys.toArray e) none) (.inr rfl)
  have hbb : (n + 1) * bytes ≤ (1000000 + 1) * 1000 := Nat.mul_le_mul (by omega) hby
  refine wp_append_lies _ s x t ho B e i z k bytes ht hi hzz.1 hzz.2.1 hzz.2.2 hzs hk v n xs hs hb' ⟨w0.heap.size, 0, none⟩ 1 1 ys hx (by omega) ?_ hone (by decide) (by unfold maxLen; omega) (by omega) (by simp; omega) _ rfl ?_
  · intro j y hj
    have r := (Row.new w0 e ys.toArray).cell j
    rw [Addr.add_mid, Nat.zero_add, r]
    simpa using hj
  · intro g cap w' ho' hg hat _
    exact h g cap w' ho' hg
theorem wpList_pushK {ops : Array Oper} {rest : List Oper} {o : Oper} {a : Act} {Q : Exit → Act → World → Prop} (hgd : o.guard = none) (s x : Operand) (t e : TypeId)
    (ho : o.op = .call { callee := .builtin .append, args := #[s, x], argTypes := #[t, t] }) (z : Value) (k bytes : Nat) (ht : Try.prog.underlying t = some (.slice e)) (hi : (Try.prog.info? e).map (fun i => (i.zero, i.size, i.bytes)) = some (some z, k, bytes)) (hzs : z.cells.size = k) (hk : 0 < k) (hby : bytes ≤ 1000)
    (B : Nat) (v : Value) (n : Nat) (xs : List Value) (hs : a.eval s = v) (w0 w1 : World) (ys : List Value) (hys : ys.length = k) (hone : ∀ y ∈ ys, y.oneCell' = true) (hw1 : w1 = w0.alloc (.cells ys.toArray e)) (hb : w0.ownsRow B e k v n xs) (hB : B ≤ w0.heap.size)
    (g0 : Nat) (hg0 : g0 = w0.heap.size) (hx : a.eval x = .slice (some ⟨g0, 0, none⟩) 1 1) (h63 : n ≤ 1000000)
    (h : ∀ g cap w', w'.ownsRow B e k (.slice (some ⟨g, 0, none⟩) (n + 1) cap) (n + 1) (xs ++ ys) → w1.grownBy w' v.ownBlock → wpList Try.prog ops Q rest (a.put o.dst (.slice (some ⟨g, 0, none⟩) (n + 1) cap)) w') : wpList Try.prog ops Q (o :: rest) a w1 :=
  wpList_plain hgd fun _ hK => wp_pushK s x t e ho z k bytes ht hi hzs hk hby B v n xs hs w0 w1 ys hys hone hw1 hb hB g0 hg0 hx h63 fun g cap w' h1 h2 => hK _ _ (h g cap w' h1 h2)

/-- 'append(v, ys...)': a list that lies elsewhere -/
theorem wp_pushM {o : Oper} {a : Act} {w : World} {K : Act → World → Prop} {Q : Exit → Act → World → Prop} (s x : Operand) (t e : TypeId)
    (ho : o.op = .call { callee := .builtin .append, args := #[s, x], argTypes := #[t, t] }) (z : Value) (k bytes : Nat) (ht : Try.prog.underlying t = some (.slice e)) (hi : (Try.prog.info? e).map (fun i => (i.zero, i.size, i.bytes)) = some (some z, k, bytes)) (hzs : z.cells.size = k) (hk : 0 < k) (hby : bytes ≤ 1000)
    (B : Nat) (v : Value) (n : Nat) (xs : List Value) (hs : a.eval s = v) (hb : w.ownsRow B e k v n xs) (hB : B ≤ w.heap.size) (ad : Addr) (m c : Nat) (ys : List Value) (hx : a.eval x = .slice (some ad) m c) (hys : ys.length = m * k) (hone : ∀ y ∈ ys, y.oneCell' = true)
    (hl : ∀ j u, ys[j]? = some u → w.cell? (ad.add j) = some u) (h63 : n + m ≤ 1000000)
    (h : ∀ v' w', w'.ownsRow B e k v' (n + m) (xs ++ ys) → w.grownBy w' v.ownBlock → K (a.put o.dst v') w') : Oper.wp Try.prog o a w K Q := by
  obtain ⟨i, hi, hzz⟩ := Option.map_eq_some_iff.1 hi
  simp only [Prod.mk.injEq] at hzz
  have hbb : (n + m) * bytes ≤ (1000000 + 1) * 1000 := Nat.mul_le_mul (by omega) hby
  exact wp_append_own w s x t ho B e i z k bytes ht hi hzz.1 hzz.2.1 hzz.2.2 hzs hk v n xs hs hb ad m c ys hx hys hl hone (by unfold maxLen; omega) (by omega) hB fun v' w' h2 h3 h4 => h v' w' h2 h3
theorem wpList_pushM {ops : Array Oper} {rest : List Oper} {o : Oper} {a : Act} {w : World} {Q : Exit → Act → World → Prop} (hgd : o.guard = none) (s x : Operand) (t e : TypeId)
    (ho : o.op = .call { callee := .builtin .append, args := #[s, x], argTypes := #[t, t] }) (z : Value) (k bytes : Nat) (ht : Try.prog.underlying t = some (.slice e)) (hi : (Try.prog.info? e).map (fun i => (i.zero, i.size, i.bytes)) = some (some z, k, bytes)) (hzs : z.cells.size = k) (hk : 0 < k) (hby : bytes ≤ 1000)
    (B : Nat) (v : Value) (n : Nat) (xs : List Value) (hs : a.eval s = v) (hb : w.ownsRow B e k v n xs) (hB : B ≤ w.heap.size) (ad : Addr) (m c : Nat) (ys : List Value) (hx : a.eval x = .slice (some ad) m c) (hys : ys.length = m * k) (hone : ∀ y ∈ ys, y.oneCell' = true)
    (hl : ∀ j u, ys[j]? = some u → w.cell? (ad.add j) = some u) (h63 : n + m ≤ 1000000)
    (h : ∀ v' w', w'.ownsRow B e k v' (n + m) (xs ++ ys) → w.grownBy w' v.ownBlock → wpList Try.prog ops Q rest (a.put o.dst v') w') : wpList Try.prog ops Q (o :: rest) a w :=
  wpList_plain hgd fun _ hK => wp_pushM s x t e ho z k bytes ht hi hzs hk hby B v n xs hs hb hB ad m c ys hx hys hone hl h63 fun v' w' h1 h2 => hK _ _ (h v' w' h1 h2)

/-- two results: one that lies in memory, one in a slot; two that lie in memory -/
theorem results_cell_slot {P : Program} {fn : Func} {p q : Tmp} {ty : TypeId} (h : fn.results = #[.cell p ty, .tmp q]) (tmps : Array Value) (w : World) (g : Nat) (t : TypeId) (cs : Array Value) (fr : Nat × Nat) (d : TypeDesc)
    (hp : tmps.getD p undef = .pointer (some ⟨g, 0, none⟩)) (hg : w.heap[g]? = some (.cells cs t fr))
    (hu : P.underlying ty = some d) (hd : (match d with | .struct _ | .array _ _ => true | _ => false) = true) (hi : (P.info? ty).map (·.size) = some cs.size) :
    (results fn tmps).run P w = .ok (.tuple #[.agg cs, tmps.getD q undef]) w := by
  have hp' : tmps[p]?.getD undef = .pointer (some ⟨g, 0, none⟩) := by simpa using hp
  simp [results, h, hp', asAddr, run_loadVar_row w g t ty cs fr d hg hu hd hi]

/-- a call has returned some number, some truth value, some text -/
def RetI (e : Ending) : Prop := ∃ x, e = .returned (.int .i64 x)
def RetB (e : Ending) : Prop := ∃ b, e = .returned (.bool b)
def RetS (e : Ending) : Prop := ∃ b, e = .returned (.string b)
theorem retI (x : Int) : RetI (.returned (.int .i64 x)) := ⟨x, rfl⟩
theorem retB (b : Bool) : RetB (.returned (.bool b)) := ⟨b, rfl⟩
theorem retS (b : ByteArray) : RetS (.returned (.string b)) := ⟨b, rfl⟩
/-- .. a short text -/
def RetN (e : Ending) : Prop := ∃ b : ByteArray, b.size ≤ 9223372036854775807 ∧ e = .returned (.string b)

/-- a field of a schema -/
structure Fl where
  id : Int
  nm : ByteArray
  sz : nm.size ≤ 9223372036854775807
  ty : Int
  pa : Int
def flc (f : Fl) : List Value := [.int .i64 f.id, .string f.nm, .int .i64 f.ty, .int .i64 f.pa]
theorem length_flc (f : Fl) : (flc f).length = 4 := rfl
/-- a list of fields lies in memory, in a block of fields -/
def Lf (w : World) (a : Option Addr) (F : List Fl) : Prop :=
  F.length = 0 ∨ ∃ g o, a = some ⟨g, o, none⟩ ∧ g < w.heap.size ∧ (∀ i x, F[i]? = some x → w.rangeAt g (o + i * 4) (flc x)) ∧ ∃ cs fr, w.heap[g]? = some (.cells cs 126 fr)
theorem Lf.ls {w : World} {a : Option Addr} {F : List Fl} (h : Lf w a F) : Ls 4 flc w a F := by
  rcases h with h | ⟨g, o, ea, hg, hc, _⟩
  · exact .inl h
  · exact .inr ⟨g, o, ea, hg, hc⟩
theorem Lf.below {w w' : World} {B : Nat} {a : Option Addr} {F : List Fl} (h : Lf w a F) (hb : Below B w w') (hB : w.heap.size ≤ B) : Lf w' a F := by
  rcases h with h | ⟨g, o, ea, hg, hc, cs, fr, ht⟩
  · exact .inl h
  · exact .inr ⟨g, o, ea, Nat.lt_of_lt_of_le hg hb.size, fun i x hx => range_below (hc i x hx) hb (Nat.lt_of_lt_of_le hg hB), cs, fr, (hb.block g (Nat.lt_of_lt_of_le hg hB)).trans ht⟩
theorem Lf.bel {w w' : World} {a : Option Addr} {F : List Fl} (h : Lf w a F) (hb : Below w.heap.size w w') : Lf w' a F := h.below hb (Nat.le_refl _)
theorem Lf.some {w : World} {a : Option Addr} {F : List Fl} (h : Lf w a F) (hn : 0 < F.length) : ∃ g o, a = some ⟨g, o, none⟩ ∧ g < w.heap.size ∧ ∀ i x, F[i]? = some x → w.rangeAt g (o + i * 4) (flc x) := h.ls.some hn
theorem lf_of_own {w : World} {base n : Nat} {v : Value} {L : List Fl} (h : w.ownsRow base 126 4 v n (L.flatMap flc)) (hn : n = L.length) : ∃ a cap, v = .slice a n cap ∧ Lf w a L := by
  rcases h.2 with ⟨hv, h0⟩ | ⟨g, cap, cur, hv, hbg, hg, r⟩
  · subst h0; exact ⟨none, 0, hv, .inl hn.symm⟩
  · refine ⟨some ⟨g, 0, none⟩, cap, hv, .inr ⟨g, 0, rfl, (Array.getElem?_eq_some_iff.1 hg).1, fun i x hx j u hu => ?_, cur, _, hg⟩⟩
    subst hv
    have hj : j < 4 := by rw [← length_flc x]; exact (List.getElem?_eq_some_iff.1 hu).1
    have hi : i < L.length := (List.getElem?_eq_some_iff.1 hx).1
    have hik : i * 4 + j < n * 4 := by omega
    have := h.cellAt (i * 4 + j) hik
    rw [get_fl length_flc L i j x hx hj, hu] at this
    rw [Nat.zero_add]
    exact this
/-- a schema lies in memory: of its fields there are at most m -/
def Sch (m : Nat) (w : World) (v : Value) : Prop := ∃ (a : Option Addr) (F : List Fl) (c : Nat) (nx : Int), v = .agg #[.slice a F.length c, .int .i64 nx] ∧ F.length ≤ m ∧ Lf w a F
theorem Sch.bel {m : Nat} {w w' : World} {v : Value} (h : Sch m w v) (hb : Below w.heap.size w w') : Sch m w' v := by
  obtain ⟨a, F, c, nx, e, h1, h4⟩ := h
  exact ⟨a, F, c, nx, e, h1, h4.bel hb⟩
end Go.Proofs.Ytkonoojmhjinpaa
