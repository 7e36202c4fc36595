/- A struct in memory whose one cell is a list that the call grows. -/
import Derived.Test.YtkonoojmhjinpaaC
import Derived.Maps.AppendAt
import Derived.Deep.RegionHeld3
set_option linter.all false
namespace Go.Proofs.Ytkonoojmhjinpaa
open Go.RowKit Go.Fen
set_option linter.unusedVariables false
set_option maxHeartbeats 4000000

/-- 'v = append(v, x)' at a step of a region that draws its order -/
theorem step_pushK {ops : Array Oper} {o : Oper} {a : Act} {K : Act → World → Prop} {Q : Exit → Act → World → Prop} {E : Prop} (hgd : o.guard = none) (s x : Operand) (t e : TypeId)
    (ho : o.op = .call { callee := .builtin .append, args := #[s, x], argTypes := #[t, t] }) (z : Value) (k bytes : Nat) (ht : Try.prog.underlying t = some (.slice e)) (hi : (Try.prog.info? e).map (fun i => (i.zero, i.size, i.bytes)) = some (some z, k, bytes)) (hzs : z.cells.size = k) (hk : 0 < k) (hby : bytes ≤ 1000)
    (B : Nat) (v : Value) (n : Nat) (xs : List Value) (hs : a.eval s = v) (w0 w1 : World) (ys : List Value) (hys : ys.length = k) (hone : ∀ y ∈ ys, y.oneCell' = true) (hw1 : w1 = w0.alloc (.cells ys.toArray e)) (hb : w0.ownsRow B e k v n xs) (hB : B ≤ w0.heap.size)
    (g0 : Nat) (hg0 : g0 = w0.heap.size) (hx : a.eval x = .slice (some ⟨g0, 0, none⟩) 1 1) (h63 : n ≤ 1000000)
    (h : ∀ g cap w', w'.ownsRow B e k (.slice (some ⟨g, 0, none⟩) (n + 1) cap) (n + 1) (xs ++ ys) → w1.grownBy w' v.ownBlock → K (a.put o.dst (.slice (some ⟨g, 0, none⟩) (n + 1) cap)) w') : if Region.wanted o (yielded ops a.tmps) = true then Oper.wp Try.prog o a w1 K Q else E := by
  have hw : Region.wanted o (yielded ops a.tmps) = true := by simp [Region.wanted, hgd]
  rw [if_pos hw]
  exact wp_pushK s x t e ho z k bytes ht hi hzs hk hby B v n xs hs w0 w1 ys hys hone hw1 hb hB g0 hg0 hx h63 h

/-- in w the variable at gv holds a struct (mk v) whose list v is the call's own; nothing else has turned since V0 -/
def AccG (V0 : World) (gv : Nat) (t : TypeId) (mk : Value → Array Value) (e : TypeId) (k : Nat) (v : Value) (n : Nat) (xs : List Value) (w : World) : Prop :=
  w.ownsRow V0.heap.size e k v n xs ∧ Row w gv t (mk v) ∧ V0.grownBy w (some gv)
section
variable {V0 w w1 w' : World} {gv : Nat} {t e : TypeId} {mk : Value → Array Value} {k n n' : Nat} {v v' : Value} {xs xs' : List Value}
theorem AccG.call (h : AccG V0 gv t mk e k v n xs w) (hb : Below w.heap.size w w') : AccG V0 gv t mk e k v n xs w' :=
  ⟨owns_below h.1 hb (Nat.le_refl _), h.2.1.below hb h.2.1.lt, grown_below h.2.2 hb h.2.2.size⟩
theorem AccG.drewN (h : AccG V0 gv t mk e k v n xs w) (q : Nat) : AccG V0 gv t mk e k v n xs (w.drewN q) := h.call (below_drewN (Below.refl _ _) q)
theorem AccG.bel (h : AccG V0 gv t mk e k v n xs w) {B : Nat} (hB : B ≤ gv) (hV : B ≤ V0.heap.size) : Below B V0 w :=
  ⟨h.2.2.os, h.2.2.tape, h.2.2.output, h.2.2.size, fun j hj => h.2.2.block j (Nat.lt_of_lt_of_le hj hV) (by intro e; injection e with e; omega)⟩
theorem AccG.push (h : AccG V0 gv t mk e k v n xs w) (hV : gv < V0.heap.size) (h1 : Below w.heap.size w w1) (hv' : w'.ownsRow V0.heap.size e k v' n' xs') (hg : w1.grownBy w' v.ownBlock) (i : Nat) (hmk : (mk v).setIfInBounds i v' = mk v') :
    Row w' gv t (mk v) ∧ AccG V0 gv t mk e k v' n' xs' (w'.setCell ⟨gv, i, none⟩ v') := by
  have hge : ∀ k, v.ownBlock = some k → V0.heap.size ≤ k := fun k hk => (h.1.lt k hk).1
  have b : Below V0.heap.size w w' := (h1.mono h.2.2.size).trans (Below.grown (Below.refl _ _) hg (Nat.le_trans h.2.2.size h1.size) hge)
  have r := h.2.1.below b hV
  refine ⟨r, ?_, ?_, grown_set (grown_below h.2.2 b (Nat.le_refl _)) i v'⟩
  · exact owns_grown hv' (grown_set (grown_refl w' (some gv)) i v') (.inl (fun e => by have := (hv'.lt gv e).1; omega))
  · have := r.set i v'
    rw [hmk] at this
    exact this
end
theorem run_append_zero {P : Program} (w : World) (t ty e : TypeId) (i : TypeInfo) (ht : P.underlying t = some (.slice e)) (hi : P.info? e = some i) (p : Option Addr) (n cap c : Nat) (hn : n ≤ cap) :
    (Builtin.append_ #[t, t] ty #[.slice p n cap, .slice none 0 c]).run P w = .ok (.slice p n cap) w := by
  simp [Builtin.append_, run_underlying ht, sizeOf, typeInfo, hi, Builtin.lenOf, Builtin.firstCells, loadCells, loadCellsFrom, hn]
  cases p <;> simp [storeCells]
section
variable {α : Type} {k : Nat} {c : α → List Value}
/-- the cells of a list that lies in memory -/
theorem ls_cells (hc : ∀ x, (c x).length = k) {w : World} {g o : Nat} {L : List α} (h : ∀ i x, L[i]? = some x → w.rangeAt g (o + i * k) (c x)) : ∀ j u, (L.flatMap c)[j]? = some u → w.cell? ((⟨g, o, none⟩ : Addr).add j) = some u := by
  intro j u hu
  have hj : j < L.length * k := by rw [← length_fl hc]; exact (List.getElem?_eq_some_iff.1 hu).1
  have hk : 0 < k := by
    rcases Nat.eq_zero_or_pos k with h0 | h0
    · rw [h0] at hj; omega
    · exact h0
  have hd : j / k * k + j % k = j := by rw [Nat.mul_comm]; exact Nat.div_add_mod j k
  have hm : j % k < k := Nat.mod_lt _ hk
  have hi : j / k < L.length := Nat.div_lt_of_lt_mul (by rw [Nat.mul_comm]; exact hj)
  obtain ⟨x, hx⟩ : ∃ x, L[j / k]? = some x := ⟨_, List.getElem?_eq_getElem hi⟩
  have := h (j / k) x hx (j % k) u (by rw [← get_fl hc L (j / k) (j % k) x hx hm, hd]; exact hu)
  rw [addr_add, ← this]
  congr 2
  omega
theorem ones_fl (hone : ∀ x, ∀ y ∈ c x, y.oneCell' = true) (L : List α) : ∀ y ∈ L.flatMap c, y.oneCell' = true := by
  intro y hy
  obtain ⟨x, _, h⟩ := List.mem_flatMap.1 hy
  exact hone x y h
theorem own_cap {w : World} {base n : Nat} {e : TypeId} {v : Value} {xs : List Value} (h : w.ownsRow base e k v n xs) : ∃ p cap, v = .slice p n cap ∧ n ≤ cap := by
  rcases h.2 with ⟨hv, h0⟩ | ⟨g, cap, cur, hv, _, _, hn, _⟩
  · subst h0; exact ⟨_, _, hv, Nat.le_refl _⟩
  · exact ⟨_, _, hv, hn⟩
theorem wp_pushM' {o : Oper} {a : Act} {w : World} {K : Act → World → Prop} {Q : Exit → Act → World → Prop} (s x : Operand) (t e : TypeId)
    (ho : o.op = .call { callee := .builtin .append, args := #[s, x], argTypes := #[t, t] }) (z : Value) (k bytes : Nat) (ht : Try.prog.underlying t = some (.slice e)) (hi : (Try.prog.info? e).map (fun i => (i.zero, i.size, i.bytes)) = some (some z, k, bytes)) (hzs : z.cells.size = k) (hk : 0 < k) (hby : bytes ≤ 1000)
    (B : Nat) (v : Value) (n : Nat) (xs : List Value) (hs : a.eval s = v) (hb : w.ownsRow B e k v n xs) (hB : B ≤ w.heap.size) (ad : Addr) (m c : Nat) (ys : List Value) (hx : a.eval x = .slice (some ad) m c) (hys : ys.length = m * k) (hone : ∀ y ∈ ys, y.oneCell' = true)
    (hl : ∀ j u, ys[j]? = some u → w.cell? (ad.add j) = some u) (h63 : n + m ≤ 1000000)
    (h : ∀ v' w', w'.ownsRow B e k v' (n + m) (xs ++ ys) → w.grownBy w' v.ownBlock → (v'.ownBlock = v.ownBlock ∨ v'.ownBlock = some w.heap.size) → K (a.put o.dst v') w') : Oper.wp Try.prog o a w K Q := by
  obtain ⟨i, hi, hzz⟩ := Option.map_eq_some_iff.1 hi
  simp only [Prod.mk.injEq] at hzz
  have hbb : (n + m) * bytes ≤ (1000000 + 1) * 1000 := Nat.mul_le_mul (by omega) hby
  obtain ⟨v', w', hr, h2, h3, _, h5⟩ := run_append_own_at (P := Try.prog) w B t o.type e i z k bytes ht hi hzz.1 hzz.2.1 hzz.2.2 hzs hk v n xs hb ad m c ys hys hl hone (by unfold maxLen; omega) (by omega) hB
  unfold Oper.wp execOp
  simp only [ho, resolve, invoke, builtin, Sem.run_bind, Sem.run_pure, Result.andThen_ok, List.map_toArray, List.map_cons, List.map_nil, hs, hx, hr]
  exact h v' w' h2 h3 h5
/-- 'append(v, L...)', L a list that lies anywhere; of an empty one nothing is asked -/
theorem wp_pushL {o : Oper} {a : Act} {w : World} {K : Act → World → Prop} {Q : Exit → Act → World → Prop} (s x : Operand) (t e : TypeId)
    (ho : o.op = .call { callee := .builtin .append, args := #[s, x], argTypes := #[t, t] }) (z : Value) (bytes : Nat) (ht : Try.prog.underlying t = some (.slice e)) (hi : (Try.prog.info? e).map (fun i => (i.zero, i.size, i.bytes)) = some (some z, k, bytes)) (hzs : z.cells.size = k) (hk : 0 < k) (hby : bytes ≤ 1000) (hc : ∀ x, (c x).length = k) (hone : ∀ x, ∀ y ∈ c x, y.oneCell' = true)
    (B : Nat) (v : Value) (n : Nat) (xs : List Value) (hs : a.eval s = v) (hb : w.ownsRow B e k v n xs) (hB : B ≤ w.heap.size) (ad : Option Addr) (m cp : Nat) (L : List α) (hx : a.eval x = .slice ad m cp) (hm : m = L.length) (hl : Ls k c w ad L) (h63 : n + m ≤ 1000000)
    (h : ∀ v' w', w'.ownsRow B e k v' (n + m) (xs ++ L.flatMap c) → w.grownBy w' v.ownBlock → (v'.ownBlock = v.ownBlock ∨ v'.ownBlock = some w.heap.size) → K (a.put o.dst v') w') : Oper.wp Try.prog o a w K Q := by
  subst hm
  by_cases h0 : L.length = 0
  · cases ad with
    | some ad =>
      have : L = [] := List.length_eq_zero_iff.1 h0
      subst this
      exact wp_pushM' s x t e ho z k bytes ht hi hzs hk hby B v n xs hs hb hB ad 0 cp [] hx (by simp) (by simp) (by simp) h63 h
    | none =>
      have : L = [] := List.length_eq_zero_iff.1 h0
      subst this
      obtain ⟨i, hi, hzz⟩ := Option.map_eq_some_iff.1 hi
      obtain ⟨p, cap, rfl, hn⟩ := own_cap hb
      have hr := run_append_zero w t o.type e i ht hi p n cap cp hn
      unfold Oper.wp execOp
      simp only [List.length_nil] at hx
      simp only [ho, resolve, invoke, builtin, Sem.run_bind, Sem.run_pure, Result.andThen_ok, List.map_toArray, List.map_cons, List.map_nil, hs, hx, hr]
      exact h _ w (by simpa using hb) (grown_refl _ _) (.inl rfl)
  · obtain ⟨g, o', rfl, _, hcs⟩ := hl.some (by omega)
    exact wp_pushM' s x t e ho z k bytes ht hi hzs hk hby B v n xs hs hb hB ⟨g, o', none⟩ L.length cp (L.flatMap c) hx (length_fl hc L) (ones_fl hone L) (ls_cells hc hcs) h63 h
theorem step_pushL {ops : Array Oper} {o : Oper} {a : Act} {w : World} {K : Act → World → Prop} {Q : Exit → Act → World → Prop} {E : Prop} (hgd : o.guard = none) (s x : Operand) (t e : TypeId)
    (ho : o.op = .call { callee := .builtin .append, args := #[s, x], argTypes := #[t, t] }) (z : Value) (bytes : Nat) (ht : Try.prog.underlying t = some (.slice e)) (hi : (Try.prog.info? e).map (fun i => (i.zero, i.size, i.bytes)) = some (some z, k, bytes)) (hzs : z.cells.size = k) (hk : 0 < k) (hby : bytes ≤ 1000) (hc : ∀ x, (c x).length = k) (hone : ∀ x, ∀ y ∈ c x, y.oneCell' = true)
    (B : Nat) (v : Value) (n : Nat) (xs : List Value) (hs : a.eval s = v) (hb : w.ownsRow B e k v n xs) (hB : B ≤ w.heap.size) (ad : Option Addr) (m cp : Nat) (L : List α) (hx : a.eval x = .slice ad m cp) (hm : m = L.length) (hl : Ls k c w ad L) (h63 : n + m ≤ 1000000)
    (h : ∀ v' w', w'.ownsRow B e k v' (n + m) (xs ++ L.flatMap c) → w.grownBy w' v.ownBlock → (v'.ownBlock = v.ownBlock ∨ v'.ownBlock = some w.heap.size) → K (a.put o.dst v') w') : if Region.wanted o (yielded ops a.tmps) = true then Oper.wp Try.prog o a w K Q else E := by
  have hw : Region.wanted o (yielded ops a.tmps) = true := by simp [Region.wanted, hgd]
  rw [if_pos hw]
  exact wp_pushL s x t e ho z bytes ht hi hzs hk hby hc hone B v n xs hs hb hB ad m cp L hx hm hl h63 h
theorem wpList_pushL {ops : Array Oper} {rest : List Oper} {o : Oper} {a : Act} {w : World} {Q : Exit → Act → World → Prop} (hgd : o.guard = none) (s x : Operand) (t e : TypeId)
    (ho : o.op = .call { callee := .builtin .append, args := #[s, x], argTypes := #[t, t] }) (z : Value) (bytes : Nat) (ht : Try.prog.underlying t = some (.slice e)) (hi : (Try.prog.info? e).map (fun i => (i.zero, i.size, i.bytes)) = some (some z, k, bytes)) (hzs : z.cells.size = k) (hk : 0 < k) (hby : bytes ≤ 1000) (hc : ∀ x, (c x).length = k) (hone : ∀ x, ∀ y ∈ c x, y.oneCell' = true)
    (B : Nat) (v : Value) (n : Nat) (xs : List Value) (hs : a.eval s = v) (hb : w.ownsRow B e k v n xs) (hB : B ≤ w.heap.size) (ad : Option Addr) (m cp : Nat) (L : List α) (hx : a.eval x = .slice ad m cp) (hm : m = L.length) (hl : Ls k c w ad L) (h63 : n + m ≤ 1000000)
    (h : ∀ v' w', w'.ownsRow B e k v' (n + m) (xs ++ L.flatMap c) → w.grownBy w' v.ownBlock → (v'.ownBlock = v.ownBlock ∨ v'.ownBlock = some w.heap.size) → wpList Try.prog ops Q rest (a.put o.dst v') w') : wpList Try.prog ops Q (o :: rest) a w :=
  wpList_plain hgd fun _ hK => wp_pushL s x t e ho z bytes ht hi hzs hk hby hc hone B v n xs hs hb hB ad m cp L hx hm hl h63 fun v' w' h1 h2 h3 => hK _ _ (h v' w' h1 h2 h3)
/-- an empty list just laid -/
theorem owns_lit (w : World) (B : Nat) (hB : B ≤ w.heap.size) (e : TypeId) (k : Nat) : (w.alloc (.cells #[] e)).ownsRow B e k (.slice (some ⟨w.heap.size, 0, none⟩) 0 0) 0 [] :=
  ⟨by simp, .inr ⟨w.heap.size, 0, #[], rfl, hB, heap_alloc_last w _, Nat.le_refl _, by unfold maxLen; omega, by simp, by simp⟩⟩
end
/-- one element pushed, and where the list lies then -/
theorem wp_pushK' {o : Oper} {a : Act} {K : Act → World → Prop} {Q : Exit → Act → World → Prop} (s x : Operand) (t e : TypeId)
    (ho : o.op = .call { callee := .builtin .append, args := #[s, x], argTypes := #[t, t] }) (z : Value) (k bytes : Nat) (ht : Try.prog.underlying t = some (.slice e)) (hi : (Try.prog.info? e).map (fun i => (i.zero, i.size, i.bytes)) = some (some z, k, bytes)) (hzs : z.cells.size = k) (hk : 0 < k) (hby : bytes ≤ 1000)
    (B : Nat) (v : Value) (n : Nat) (xs : List Value) (hs : a.eval s = v) (w0 w1 : World) (ys : List Value) (hys : ys.length = k) (hone : ∀ y ∈ ys, y.oneCell' = true) (hw1 : w1 = w0.alloc (.cells ys.toArray e)) (hb : w0.ownsRow B e k v n xs) (hB : B ≤ w0.heap.size)
    (g0 : Nat) (hg0 : g0 = w0.heap.size) (hx : a.eval x = .slice (some ⟨g0, 0, none⟩) 1 1) (h63 : n ≤ 1000000)
    (h : ∀ g cap w', w'.ownsRow B e k (.slice (some ⟨g, 0, none⟩) (n + 1) cap) (n + 1) (xs ++ ys) → w1.grownBy w' v.ownBlock → (v.ownBlock = some g ∨ g = g0 + 1) → K (a.put o.dst (.slice (some ⟨g, 0, none⟩) (n + 1) cap)) w') : Oper.wp Try.prog o a w1 K Q := by
  obtain ⟨i, hi, hzz⟩ := Option.map_eq_some_iff.1 hi
  simp only [Prod.mk.injEq] at hzz
  subst hg0
  subst hw1
  have hb' := owns_grown hb (World.grownBy_alloc w0 (.cells ys.toArray e) none) (.inr rfl)
  have hbb : (n + 1) * bytes ≤ (1000000 + 1) * 1000 := Nat.mul_le_mul (by omega) hby
  refine wp_append_lies _ s x t ho B e i z k bytes ht hi hzz.1 hzz.2.1 hzz.2.2 hzs hk v n xs hs hb' ⟨w0.heap.size, 0, none⟩ 1 1 ys hx (by omega) ?_ hone (by decide) (by unfold maxLen; omega) (by omega) (by simp; omega) _ rfl ?_
  · intro j y hj
    have r := (Row.new w0 e ys.toArray).cell j
    rw [Addr.add_mid, Nat.zero_add, r]
    simpa using hj
  · intro g cap w' ho' hg hat _
    exact h g cap w' ho' hg (by simpa using hat)
theorem wpList_pushK' {ops : Array Oper} {rest : List Oper} {o : Oper} {a : Act} {Q : Exit → Act → World → Prop} (hgd : o.guard = none) (s x : Operand) (t e : TypeId)
    (ho : o.op = .call { callee := .builtin .append, args := #[s, x], argTypes := #[t, t] }) (z : Value) (k bytes : Nat) (ht : Try.prog.underlying t = some (.slice e)) (hi : (Try.prog.info? e).map (fun i => (i.zero, i.size, i.bytes)) = some (some z, k, bytes)) (hzs : z.cells.size = k) (hk : 0 < k) (hby : bytes ≤ 1000)
    (B : Nat) (v : Value) (n : Nat) (xs : List Value) (hs : a.eval s = v) (w0 w1 : World) (ys : List Value) (hys : ys.length = k) (hone : ∀ y ∈ ys, y.oneCell' = true) (hw1 : w1 = w0.alloc (.cells ys.toArray e)) (hb : w0.ownsRow B e k v n xs) (hB : B ≤ w0.heap.size)
    (g0 : Nat) (hg0 : g0 = w0.heap.size) (hx : a.eval x = .slice (some ⟨g0, 0, none⟩) 1 1) (h63 : n ≤ 1000000)
    (h : ∀ g cap w', w'.ownsRow B e k (.slice (some ⟨g, 0, none⟩) (n + 1) cap) (n + 1) (xs ++ ys) → w1.grownBy w' v.ownBlock → (v.ownBlock = some g ∨ g = g0 + 1) → wpList Try.prog ops Q rest (a.put o.dst (.slice (some ⟨g, 0, none⟩) (n + 1) cap)) w') : wpList Try.prog ops Q (o :: rest) a w1 :=
  wpList_plain hgd fun _ hK => wp_pushK' s x t e ho z k bytes ht hi hzs hk hby B v n xs hs w0 w1 ys hys hone hw1 hb hB g0 hg0 hx h63 fun g cap w' h1 h2 h3 => hK _ _ (h g cap w' h1 h2 h3)

/-- in w the variable at gv holds a struct (mk v) whose list v is the call's own and lies elsewhere; below B nothing has turned since w0 -/
def AccH (B : Nat) (w0 : World) (gv : Nat) (t : TypeId) (mk : Value → Array Value) (e : TypeId) (k : Nat) (v : Value) (n : Nat) (xs : List Value) (w : World) : Prop :=
  w.ownsRow B e k v n xs ∧ v.ownBlock ≠ some gv ∧ Row w gv t (mk v) ∧ B ≤ gv ∧ Below B w0 w
section
variable {B : Nat} {w0 w w1 w' : World} {gv : Nat} {t e : TypeId} {mk : Value → Array Value} {k n n' : Nat} {v v' : Value} {xs xs' : List Value}
theorem AccH.call (h : AccH B w0 gv t mk e k v n xs w) (hb : Below w.heap.size w w') : AccH B w0 gv t mk e k v n xs w' :=
  ⟨owns_below h.1 hb (Nat.le_refl _), h.2.1, h.2.2.1.below hb h.2.2.1.lt, h.2.2.2.1, h.2.2.2.2.trans (hb.mono (Nat.le_trans h.2.2.2.1 (Nat.le_of_lt h.2.2.1.lt)))⟩
theorem AccH.size (h : AccH B w0 gv t mk e k v n xs w) : B ≤ w.heap.size := Nat.le_trans h.2.2.2.1 (Nat.le_of_lt h.2.2.1.lt)
theorem AccH.push (h : AccH B w0 gv t mk e k v n xs w) (h1 : Below w.heap.size w w1) (hv' : w'.ownsRow B e k v' n' xs') (hg : w1.grownBy w' v.ownBlock) (hl : v'.ownBlock = v.ownBlock ∨ v'.ownBlock = some w1.heap.size) (i : Nat) (hmk : (mk v).setIfInBounds i v' = mk v') :
    Row w' gv t (mk v) ∧ AccH B w0 gv t mk e k v' n' xs' (w'.setCell ⟨gv, i, none⟩ v') := by
  have hge : ∀ k, v.ownBlock = some k → B ≤ k := fun k hk => (h.1.lt k hk).1
  have hB := h.size
  have b : Below B w0 w' := Below.grown (h.2.2.2.2.trans (h1.mono hB)) hg (Nat.le_trans hB h1.size) hge
  have r1 := h.2.2.1.below h1 h.2.2.1.lt
  have r : Row w' gv t (mk v) := r1.grown hg (fun e => h.2.1 e.symm)
  have ne : v'.ownBlock ≠ some gv := by
    rcases hl with e | e
    · rw [e]; exact h.2.1
    · rw [e]; have := r1.lt; intro e; injection e with e; omega
  refine ⟨r, ?_, ne, ?_, h.2.2.2.1, b.setCell h.2.2.2.1 _⟩
  · exact owns_grown hv' (grown_set (grown_refl w' (some gv)) i v') (.inl ne)
  · have := r.set i v'
    rw [hmk] at this
    exact this
end
theorem one_fls (f : Fl) : ∀ y ∈ flc f, y.oneCell' = true := by simp [flc, Value.oneCell']
def mkS (nx : Int) (v : Value) : Array Value := #[v, .int .i64 nx]
theorem fl_snoc {α : Type} (c : α → List Value) (L : List α) (x : α) : L.flatMap c ++ c x = (L ++ [x]).flatMap c := by simp
theorem grown_setRow (w : World) (g : Nat) (cs : Array Value) : w.grownBy (w.setRow g cs) (some g) :=
  ⟨rfl, rfl, rfl, by simp, fun k _ hk => setRow_other _ _ _ _ (fun e => hk (by rw [e]))⟩
theorem owns_put {w : World} {base n g : Nat} {e : TypeId} {k : Nat} {v : Value} {xs : List Value} (h : w.ownsRow base e k v n xs) (hg : g < base) (cs : Array Value) : (w.setRow g cs).ownsRow base e k v n xs :=
  owns_grown h (grown_setRow w g cs) (.inl (fun e => by have := (h.lt g e).1; omega))
theorem ls_put {α : Type} {k : Nat} {c : α → List Value} (hc : ∀ x, (c x).length = k) {w : World} {base g : Nat} {e : TypeId} {v : Value} {L : List α} (h : w.ownsRow base e k v L.length (L.flatMap c)) (hg : g < base) (cs : Array Value) : ∃ a cap, v = .slice a L.length cap ∧ Ls k c (w.setRow g cs) a L :=
  ls_of_own hc (owns_put h hg cs) rfl
theorem lf_put {w : World} {base g : Nat} {v : Value} {L : List Fl} (h : w.ownsRow base 126 4 v L.length (L.flatMap flc)) (hg : g < base) (cs : Array Value) : ∃ a cap, v = .slice a L.length cap ∧ Lf (w.setRow g cs) a L :=
  lf_of_own (owns_put h hg cs) rfl
theorem one_v (v : Value) (nx : Int) (a : Option Addr) (n c : Nat) (h : v = .slice a n c) : (#[v, .int .i64 nx]).all (·.oneCell') = true := by subst h; simp [Value.oneCell']
theorem owns_form {w : World} {base n : Nat} {e : TypeId} {k : Nat} {v : Value} {xs : List Value} (h : w.ownsRow base e k v n xs) : ∃ a c, v = .slice a n c := by
  rcases h.2 with ⟨hv, h0⟩ | ⟨g, cap, cur, hv, _⟩
  · subst h0; exact ⟨_, _, hv⟩
  · exact ⟨_, _, hv⟩
end Go.Proofs.Ytkonoojmhjinpaa
